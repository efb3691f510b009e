/- The walks of the reference's ticks: Cycle, At, Next. -/
import Derived.Test.YthnocalnlonniaaTckE
namespace Go.Proofs.Ythnocalnlonniaa
open Go Go.RowKit

theorem own_cells_i {w : World} {v : Value} {l : List Int} (h : OwnI w v l) (hn : 0 < l.length) : ∃ g c, v = .slice (some ⟨g, 0, none⟩) l.length c ∧ l.length ≤ maxLen ∧ ∀ i, i < l.length → w.cell? ⟨g, i, none⟩ = some (.int .i64 (nth l i)) := by
  obtain ⟨h1, ⟨_, h2⟩ | ⟨g, cap, cur, rfl, _, hg, hn', hc, hs, ht⟩⟩ := h
  · omega
  · refine ⟨g, cap, rfl, Nat.le_trans hn' hc, fun i hi => ?_⟩
    have hv := flat1_get l i hi
    rw [cell_of_row w g i cur 3 (0, 0) hg]
    rw [← ht, List.getElem?_take] at hv
    split at hv
    · simpa using hv
    · cases hv

/-- What the owners' lists hold at tick k of a cycle. -/
theorem OwnR.tick {w0 w : World} {a a' : Option Addr} {c c' : Nat} {s : List (Int × Int)} (h : OwnR w0 w a a' c c' (ownOf (entsOf s))) (hc : cyc s ≠ 0) :
    ∃ g g', a = some ⟨g, 0, none⟩ ∧ a' = some ⟨g', 0, none⟩ ∧ ((ownOf (entsOf s)).length : Int) = cyc s ∧ (∀ k : Nat, (k : Int) < cyc s → ∃ e ∈ entsOf s, e.at_ ≤ k ∧ (k : Int) < e.at_ + e.len ∧ w.cell? ⟨g, k, none⟩ = some (.int .i64 (e.n : Int)) ∧ w.cell? ⟨g', k, none⟩ = some (.bool (decide ((k : Int) = e.at_)))) := by
  have hl := ownOf_length (E := entsOf s) fun e he => (entsOf_mem he).2.2.2.1
  have hl2 : ((ownOf (entsOf s)).length : Int) = cyc s := hl
  have hb := cyc_bd s
  obtain ⟨g, c1, h1, _, hi⟩ := own_cells_i h.i (by rw [List.length_map]; omega)
  obtain ⟨g', c2, h2, _, _, _, hbb⟩ := h.b.cells (by rw [List.length_map]; omega)
  simp only [Value.slice.injEq] at h1 h2
  refine ⟨g, g', h1.1, h2.1, hl2, fun k hk => ?_⟩
  obtain ⟨e, he, h3, h4, h5⟩ := own_is s k hk
  have hkl : k < (ownOf (entsOf s)).length := by omega
  have e1 := hi k (by rw [List.length_map]; exact hkl)
  have e2 := hbb k (by rw [List.length_map]; exact hkl)
  have e3 : nth ((ownOf (entsOf s)).map (·.1)) k = (e.n : Int) := by simp [nth, List.getD, h5]
  have e4 : ((ownOf (entsOf s)).map (·.2)).getD k false = decide ((k : Int) = e.at_) := by simp [List.getD, h5]
  rw [e3] at e1
  rw [e4] at e2
  exact ⟨e, he, h3, h4, e1, e2⟩

theorem own_len_cyc (s : List (Int × Int)) : ((ownOf (entsOf s)).length : Int) = cyc s := ownOf_length (E := entsOf s) fun e he => (entsOf_mem he).2.2.2.1

set_option maxHeartbeats 1000000 in
theorem rcycle_any {w : World} {v : Value} {s : List (Int × Int)} (h : SlotsR w v s) :
    Calls Try.prog 16 #[v] w fun e w' => e = .returned (.int .i64 (cyc s)) ∧ Keep (fun _ => False) w w' := by
  obtain ⟨a0, c0, hv⟩ := h.form
  subst hv
  have L := hid (own_len_cyc s)
  go_enter Try.func16, Try.ntmps16
  go_wp2_with fail
  refine (owners_any h).mono ?_
  rintro e w1 ⟨a, a', c, c', rfl, R⟩
  have R := hid R
  go_wp2
  go_ret
  exact ⟨by rw [← L.out]; rfl, R.out.keep⟩

set_option maxHeartbeats 2000000 in
theorem rat_any {w : World} {v : Value} {s : List (Int × Int)} (t : Int) (h : SlotsR w v s) :
    Calls Try.prog 13 #[v, .int .i64 t] w fun e w' => e = .returned (.tuple #[.int .i64 (atOf s t).1, .int .i64 (atOf s t).2]) ∧ Keep (fun _ => False) w w' := by
  obtain ⟨a0, c0, hv⟩ := h.form
  subst hv
  have L := own_len_cyc s
  by_cases hc0 : cyc s = 0
  · have E0 : Hid (atOf s t = (-1, 0)) := hid (by unfold atOf; rw [if_pos hc0])
    have hz : (((ownOf (entsOf s)).length : Int) == 0) = true := by simp only [beq_iff_eq]; omega
    clear L
    go_enter Try.func13, Try.ntmps13
    go_wp2_with fail
    refine (owners_any h).mono ?_
    rintro e w1 ⟨a, a', c, c', rfl, R⟩
    have R := hid R
    obtain ⟨m, hm⟩ : ∃ m, (ownOf (entsOf s)).length = m := ⟨_, rfl⟩
    rw [hm] at hz ⊢
    clear hm hc0
    go_wp2
    go_ret2
    exact ⟨by rw [E0.out]; rfl, R.out.keep⟩
  · obtain ⟨e, he, he1, he2, heq⟩ := atOf_is s t hc0
    have EQ := hid heq
    have hcb := cyc_bd s
    have hth := heldOf_bd t
    have hr0 := Int.emod_nonneg (heldOf t) hc0
    have hr1 := Int.emod_lt_of_pos (heldOf t) (show 0 < cyc s by omega)
    have hrT := emod_le_self' hth.1 (show 0 < cyc s by omega)
    have hm := entsOf_mem he
    have hchain := ents_chain (s.take 16) 0 0
    have hz : (((ownOf (entsOf s)).length : Int) == 0) = false := by simp only [beq_eq_false_iff_ne, ne_eq]; omega
    obtain ⟨r, hr⟩ : ∃ r, heldOf t % cyc s = r := ⟨_, rfl⟩
    rw [hr] at he1 he2 hr0 hr1 hrT EQ
    obtain ⟨rn, rfl⟩ : ∃ rn : Nat, r = rn := ⟨r.toNat, by omega⟩
    have LL := hid L
    have HR := hid hr
    have UQ : Hid (∀ (k : Nat) (g : Ent), g ∈ entsOf s → g.at_ ≤ k → (k : Int) < g.at_ + g.len → e.at_ ≤ k → (k : Int) < e.at_ + e.len → g = e) := hid fun k g hg h1 h2 h3 h4 => chain_uniq hchain hg he (fun x hx => (entsOf_mem (s := s) hx).2.2.2.1) ⟨h1, h2⟩ ⟨h3, h4⟩
    obtain ⟨-, -, -, hl1, hl16, ha0, hac⟩ := hm
    clear L hr he heq hchain
    go_enter Try.func13, Try.ntmps13
    go_wp2_with fail
    refine (owners_any h).mono ?_
    rintro _ w1 ⟨a, a', c, c', rfl, R⟩
    obtain ⟨g, g', rfl, rfl, -, hcell⟩ := R.tick hc0
    have HC := hid hcell
    have RK := hid R.keep
    have hm0 := LL.out
    obtain ⟨m, hmm⟩ : ∃ m, (ownOf (entsOf s)).length = m := ⟨_, rfl⟩
    rw [hmm] at hz hm0 ⊢
    have HMC := hid hm0
    have hm256 : m ≤ 256 := by omega
    have hmp : 0 < m := by omega
    have hrm : rn < m := by omega
    clear R hcell hmm hm0
    go_wp2_with fail
    refine (rheld_any t w1).mono ?_
    rintro _ _ ⟨rfl, rfl⟩
    obtain ⟨T, hT⟩ : ∃ T, heldOf t = T := ⟨_, rfl⟩
    have hmod : T.tmod (m : Int) = (rn : Int) := by rw [Int.tmod_eq_emod_of_nonneg (by omega), HMC.out, ← hT]; exact HR.out
    have hmod2 : T % (m : Int) = (rn : Int) := by rw [HMC.out, ← hT]; exact HR.out
    rw [hT] at hth hrT EQ ⊢
    clear hT
    go_wp2
    go_loop [9] (fun i => ∃ n : Nat, i = .int .i64 n ∧ e.at_ + n ≤ rn) (fun i => rn - (intOf i).toNat)
    case atStart => exact ⟨0, rfl, by omega⟩
    case round =>
      obtain ⟨n, rfl, hn⟩ := hrel
      obtain ⟨p, hp⟩ : ∃ p : Nat, rn = p + n := ⟨rn - n, by omega⟩
      have hsub : IntKind.i64.wrap ((rn : Int) - n) = p := by rw [hp]; rw [show ((p + n : Nat) : Int) - n = p by omega]; exact IntWalk.i64_in _ ⟨by omega, by omega⟩
      have hsub2 : (rn : Int) - n = p := by omega
      have hpm : p < m := by omega
      have hna : e.at_ ≤ (p : Int) := by omega
      have hpl : (p : Int) < e.at_ + e.len := by omega
      have HP := hid hp
      clear hp
      obtain ⟨e2, he2m, h1, h2, -, kb⟩ := HC.out p (by have := HMC.out; omega)
      have e2e : e2 = e := UQ.out p e2 he2m h1 h2 hna hpl
      rw [e2e] at kb
      clear he2m h1 h2 e2e
      by_cases hpe : (p : Int) = e.at_
      · rw [decide_eq_true hpe] at kb
        obtain ⟨e3, he3m, h1, h2, kn, -⟩ := HC.out rn (by have := HMC.out; omega)
        have e3e : e3 = e := UQ.out rn e3 he3m h1 h2 he1 he2
        rw [e3e] at kn
        have F : Hid (T - (n : Int) = T - (rn : Int) + e.at_) := hid (by have := HP.out; omega)
        clear he3m h1 h2 e3e hpe
        go_wp2
        go_ret2
        exact ⟨by rw [EQ.out]; show Ending.returned (.tuple #[.int .i64 (e.n : Int), .int .i64 (T - (n : Int))]) = _; rw [F.out], RK.out⟩
      · rw [decide_eq_false hpe] at kb
        have hlt : e.at_ < p := by omega
        clear hpe
        go_wp2
        go_round
        case rel => exact ⟨n + 1, by go_num, by have := HP.out; omega⟩
        case measure => have := HP.out; simp [intOf]; omega

set_option maxHeartbeats 4000000 in
theorem rnext_any {w : World} {v : Value} {s : List (Int × Int)} (dom t : Int) (h : SlotsR w v s) :
    Calls Try.prog 18 #[v, .int .i64 dom, .int .i64 t] w fun e w' => e = .returned (.tuple #[.int .i64 (nextOf s dom t).1, .bool (nextOf s dom t).2]) ∧ Keep (fun _ => False) w w' := by
  obtain ⟨a0, c0, hv⟩ := h.form
  subst hv
  have L := own_len_cyc s
  have HS := hid h
  have hcb := cyc_bd s
  have hth := heldOf_bd t
  by_cases hc0 : cyc s = 0
  · have E0 : Hid (nextOf s dom t = (0, false)) := hid (by unfold nextOf; rw [if_pos hc0])
    have hz : (ownOf (entsOf s)).length = 0 := by omega
    have HZ := hid hz
    clear L hz
    go_enter Try.func18, Try.ntmps18
    go_wp2_with fail
    refine (owners_any h).mono ?_
    rintro e w1 ⟨a, a', c, c', rfl, R⟩
    have R := hid R
    rw [HZ.out]
    go_wp2_with fail
    refine (rheld_any t w1).mono ?_
    rintro _ _ ⟨rfl, rfl⟩
    go_wp2
    refine wp_loop_once ?_
    go_wp2
    go_ret2
    exact ⟨by rw [E0.out]; rfl, R.out.keep⟩
  · have hr0 := Int.emod_nonneg (heldOf t) hc0
    have hr1 := Int.emod_lt_of_pos (heldOf t) (show 0 < cyc s by omega)
    obtain ⟨r, hr⟩ : ∃ r, heldOf t % cyc s = r := ⟨_, rfl⟩
    rw [hr] at hr0 hr1
    obtain ⟨rn, rfl⟩ : ∃ rn : Nat, r = rn := ⟨r.toNat, by omega⟩
    have LL := hid L
    have HR := hid hr
    have FOUND : Hid (∀ m : Nat, (m : Int) < cyc s → heldOf t + m ≤ 4611686018427387904 → Starts s dom (((rn : Int) + m) % cyc s) → (∀ j : Nat, j < m → ¬ Starts s dom (((rn : Int) + j) % cyc s)) → nextOf s dom t = (heldOf t + m, true)) := hid fun m h1 h2 h3 h4 => next_found s dom t hc0 m h1 h2 (by rw [hr]; exact h3) (fun j hj => by rw [hr]; exact h4 j hj)
    have NONE : Hid ((∀ j : Nat, (j : Int) < cyc s → heldOf t + j ≤ 4611686018427387904 → ¬ Starts s dom (((rn : Int) + j) % cyc s)) → nextOf s dom t = (0, false)) := hid fun h1 => next_none s dom t (fun j a b => by rw [hr]; exact h1 j a b)
    clear L hr
    go_enter Try.func18, Try.ntmps18
    go_wp2_with fail
    refine (owners_any h).mono ?_
    rintro _ w1 ⟨a, a', c, c', rfl, R⟩
    obtain ⟨g, g', rfl, rfl, -, hcell⟩ := R.tick hc0
    have HC := hid hcell
    have RK := hid R.keep
    have SR := hid (HS.out.keep R.keep (fun _ _ h => h))
    have hm0 := LL.out
    obtain ⟨m, hmm⟩ : ∃ m, (ownOf (entsOf s)).length = m := ⟨_, rfl⟩
    rw [hmm] at hm0 ⊢
    rw [← hm0] at HC HR FOUND NONE hr1 hcb
    have HMC := hid hm0
    have hm256 : m ≤ 256 := by omega
    have hmp : 0 < m := by omega
    have hrm : rn < m := by omega
    clear R hcell hmm hm0 hcb hr1 hr0 hc0
    go_wp2_with fail
    refine (rheld_any t w1).mono ?_
    rintro _ _ ⟨rfl, rfl⟩
    obtain ⟨T, hT⟩ : ∃ T, heldOf t = T := ⟨_, rfl⟩
    rw [hT] at hth FOUND NONE HR ⊢
    have hmod : T.tmod (m : Int) = (rn : Int) := by rw [Int.tmod_eq_emod_of_nonneg (by omega)]; exact HR.out
    have hmod2 : T % (m : Int) = (rn : Int) := HR.out
    clear hT
    go_wp2
    go_loop [10] (fun i => ∃ j : Nat, i = .int .i64 j ∧ j ≤ m ∧ (j : Int) ≤ 4611686018427387904 - T + 1 ∧ ∀ q : Nat, q < j → ¬ Starts s dom (((rn : Int) + q) % (m : Int))) (fun i => m - (intOf i).toNat)
    case atStart => exact ⟨0, rfl, by omega, by omega, fun q hq => by omega⟩
    case round =>
      obtain ⟨j, rfl, hjm, hjT, hno⟩ := hrel
      have NO := hid hno
      clear hno
      by_cases hcond : j < m ∧ (j : Int) ≤ 4611686018427387904 - T
      · obtain ⟨hj1, hj2⟩ := hcond
        have hj1' : (j : Int) < (m : Int) := by omega
        obtain ⟨p, hp⟩ : ∃ p : Nat, ((rn : Int) + j) % (m : Int) = p := ⟨(((rn : Int) + j) % (m : Int)).toNat, by have := Int.emod_nonneg ((rn : Int) + j) (show (m : Int) ≠ 0 by omega); omega⟩
        have hpm : p < m := by have := Int.emod_lt_of_pos ((rn : Int) + j) (show (0 : Int) < (m : Int) by omega); omega
        have hmodp : ((rn : Int) + j).tmod (m : Int) = (p : Int) := by rw [Int.tmod_eq_emod_of_nonneg (by omega)]; exact hp
        obtain ⟨e, he, h1, h2, kn, kb⟩ := HC.out p (by omega)
        have HP := hid hp
        by_cases hpe : (p : Int) = e.at_
        · rw [decide_eq_true hpe] at kb
          obtain ⟨gs, os, hao, -, hns, hgs, hmx, kd, -⟩ := SR.out.ent ⟨e, he⟩
          dsimp only at hao hns kd
          subst hao
          unfold maxLen at hmx
          by_cases hd : e.dom = dom
          · have F := hid (FOUND.out j (by omega) (by omega) ⟨e, he, by rw [← hpe]; exact hp.symm, hd⟩ NO.out)
            have hdb : (e.dom == dom) = true := by simp [hd]
            have hdd := hid hd
            obtain ⟨xd, hxd⟩ : ∃ q, e.dom = q := ⟨_, rfl⟩
            rw [hxd] at kd hdb
            clear hd hxd hpe h1 h2 hp
            go_wp2
            go_ret2
            exact ⟨by rw [F.out]; rfl, RK.out⟩
          · have hdb : (e.dom == dom) = false := by simp [hd]
            have hnew : ¬ Starts s dom (((rn : Int) + j) % (m : Int)) := by
              rintro ⟨e3, he3, h3, h4⟩
              have hm3 := entsOf_mem he3
              have hme := entsOf_mem he
              have : e3 = e := chain_uniq (ents_chain (s.take 16) 0 0) he3 he (fun x hx => (entsOf_mem (s := s) hx).2.2.2.1) (k := (p : Int)) (by have := hm3.2.2.2.1; omega) (by have := hme.2.2.2.1; omega)
              exact hd (by rw [← this]; exact h4)
            have HN := hid hnew
            obtain ⟨xd, hxd⟩ : ∃ q, e.dom = q := ⟨_, rfl⟩
            rw [hxd] at kd hdb
            clear hd hxd hpe h1 h2 hp hnew
            go_wp2
            go_round
            case rel => exact ⟨j + 1, by go_num, by omega, by omega, fun q hq => by
              by_cases e : q = j
              · subst e; exact HN.out
              · exact NO.out q (by omega)⟩
            case measure => simp [intOf]; omega
        · rw [decide_eq_false hpe] at kb
          have hnew : ¬ Starts s dom (((rn : Int) + j) % (m : Int)) := by
            rintro ⟨e3, he3, h3, h4⟩
            have hm3 := entsOf_mem he3
            have : e3 = e := chain_uniq (ents_chain (s.take 16) 0 0) he3 he (fun x hx => (entsOf_mem (s := s) hx).2.2.2.1) (k := (p : Int)) (by have := hm3.2.2.2.1; omega) ⟨h1, h2⟩
            exact hpe (by rw [← this]; omega)
          have HN := hid hnew
          clear hpe h1 h2 hp hnew
          go_wp2
          go_round
          case rel => exact ⟨j + 1, by go_num, by omega, by omega, fun q hq => by
            by_cases e : q = j
            · subst e; exact HN.out
            · exact NO.out q (by omega)⟩
          case measure => simp [intOf]; omega
      · have N := hid (NONE.out (fun q h1 h2 => NO.out q (by omega)))
        have hge : ¬ ((j : Int) < (m : Int)) ∨ (j : Int) < (m : Int) ∧ ¬ ((j : Int) ≤ 4611686018427387904 - T) := by omega
        clear hcond
        rcases hge with h1 | ⟨h1, h2⟩
        all_goals
          go_wp2
          go_ret2
          exact ⟨by rw [N.out]; rfl, RK.out⟩
end Go.Proofs.Ythnocalnlonniaa
