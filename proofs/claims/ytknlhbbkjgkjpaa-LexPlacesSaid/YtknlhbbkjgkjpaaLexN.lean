/- LexPlaces. -/
import Derived.Test.YtknlhbbkjgkjpaaLexL
import Derived.Test.YtknlhbbkjgkjpaaLexM
import Derived.Test.YtknlhbbkjgkjpaaLexI
namespace Go.Proofs.Ytknlhbbkjgkjpaa
open Go Go.RowKit

/-! No word is longer than its text. -/
structure Tx (M n : Nat) (t : LS) : Prop where
  ws : ∀ x ∈ t.ws, x.1.length ≤ M
  cur : ∀ y c, t.cur = some (y, c) → y.length + n ≤ M
theorem endS_tx {M n : Nat} {t : LS} (h : Tx M n t) (k : Nat) : Tx M k (endS t) := by
  obtain ⟨ws, line, col, cur, rem⟩ := t
  cases cur with
  | none => exact ⟨h.ws, fun y c e => by cases e⟩
  | some xc =>
    obtain ⟨x, c⟩ := xc
    refine ⟨fun y hy => ?_, fun y c e => by cases e⟩
    simp only [endS, List.mem_append, List.mem_singleton] at hy
    rcases hy with hy | rfl
    · exact h.ws y hy
    · have := h.cur x c rfl
      dsimp only
      omega
theorem nextS_tx {M n : Nat} {t : LS} (c : Nat) (x : By) (h : Tx M n t) (k : Nat) (hk : x.length + k = n) (hn : n ≤ M) : Tx M k (nextS c x t) := by
  unfold nextS
  split
  · have hb : Tx M n { t with rem := t.rem || decide (c = 35) } := ⟨h.ws, h.cur⟩
    exact endS_tx hb k
  · split
    · rename_i y a e
      refine ⟨h.ws, fun y' c' e' => ?_⟩
      simp only [Option.some.injEq, Prod.mk.injEq] at e'
      rw [← e'.1, List.length_append]
      have := h.cur y a e
      omega
    · refine ⟨h.ws, fun y' c' e' => ?_⟩
      simp only [Option.some.injEq, Prod.mk.injEq] at e'
      rw [← e'.1]
      omega
theorem lexL_tx (M : Nat) : ∀ (f : Nat) (l : By) (t : LS), l.length ≤ f → l.length ≤ M → Tx M l.length t → ∀ t', lexL f l t = .inr t' → ∀ x ∈ t'.ws, x.1.length ≤ M
  | f, [], t, _, _, h, t', e => by
    rw [lexL_nil', Sum.inr.injEq] at e
    rw [← e]
    exact (endS_tx h 0).ws
  | 0, x :: l, t, hl, _, _, _, _ => by simp at hl
  | f + 1, x :: l, t, hl, hM, h, t', e => by
    have hne : x :: l ≠ [] := by simp
    obtain ⟨d1, d2⟩ := dec_le (x :: l) hne
    have hd : ((x :: l).drop (decodeL' (x :: l)).2).length ≤ f := by rw [List.length_drop]; omega
    have hd2 : ((x :: l).drop (decodeL' (x :: l)).2).length ≤ M := by rw [List.length_drop]; omega
    rw [lexL_cons f _ hne] at e
    have hb : Tx M (x :: l).length { t with col := t.col + 1 } := ⟨h.ws, h.cur⟩
    by_cases c10 : (decodeL' (x :: l)).1 = 10
    · rw [if_pos c10] at e
      have h2 := endS_tx hb ((x :: l).drop (decodeL' (x :: l)).2).length
      have h3 : Tx M ((x :: l).drop (decodeL' (x :: l)).2).length { endS { t with col := t.col + 1 } with line := t.line + 1, col := 0, rem := false } := ⟨h2.ws, h2.cur⟩
      exact lexL_tx M f _ _ hd hd2 h3 t' e
    · rw [if_neg c10] at e
      by_cases hbad : badL (decodeL' (x :: l)).1 (x :: l) = true
      · rw [if_pos hbad] at e
        cases e
      · rw [if_neg hbad] at e
        exact lexL_tx M f _ _ hd hd2 (nextS_tx _ _ hb _ (by rw [List.length_take, List.length_drop]; omega) hM) t' e
theorem lex_tx (l : By) : ∀ x ∈ (lexR l).1, x.1.length ≤ 5000 := by
  unfold lexR
  split
  · intro x hx; simp at hx
  · rename_i hl
    cases hr : lexL l.length l lex0 with
    | inl p => intro x hx; simp [finR] at hx
    | inr t => exact lexL_tx 5000 l.length l lex0 (Nat.le_refl _) (by omega) ⟨(fun x hx => by simp [lex0] at hx), (fun y c e => by simp [lex0] at e)⟩ t hr

theorem wideL_eq (l : By) : wideL l = wide' l := rfl
theorem VR.none {n : Nat} {x : By} (h : VR n x) (hx : x = []) : n = 0 := by
  cases h with
  | nil => rfl
  | cons hr _ => exact absurd (List.append_eq_nil_iff.1 hx).1 hr.ne
theorem VR.some {n : Nat} {x : By} (h : VR n x) (hx : x ≠ []) : ∃ m d, n = m + 1 ∧ wideL x = d ∧ 1 ≤ d ∧ d ≤ x.length ∧ VR m (x.drop d) := by
  cases h with
  | nil => exact absurd rfl hx
  | cons hr h2 =>
    rename_i m y z
    refine ⟨m, y.length, rfl, hr.wide z, List.length_pos_iff.2 hr.ne, by simp, ?_⟩
    rw [List.drop_left]
    exact h2

set_option maxRecDepth 10000 in
set_option maxHeartbeats 1000000 in
theorem walk_LexPlaces' (w : World) (s : By) (hs : s.length ≤ 140737488351232) :
    Calls Try.prog 6 #[.string (bs s)] w fun e w' => e = .returned (.bool true) ∧ Below w.heap.size w w' := by
  have WA := hid (words_any s (by omega))
  have LP := hid (lex_places s)
  have da := hid (lex_bd s)
  have tx := hid (lex_tx s)
  have bz := bs_size s
  obtain ⟨A, hA⟩ : ∃ A, lexR s = A := ⟨_, rfl⟩
  rw [hA] at WA LP da tx
  obtain ⟨lA, eA, pA, cA⟩ := A
  dsimp only at LP WA da tx
  clear hA
  go_enter Try.func6, Try.ntmps6
  go_wp2_with fail
  refine (WA.out w).mono ?_
  rintro _ w1 ⟨v1, rfl, cl1, k1⟩
  obtain ⟨a1, c1, hv1⟩ := cl1.reads.form
  subst hv1
  have K1 := hid k1
  have RA := hid cl1.reads
  clear cl1 k1
  by_cases he : eA = 0
  · subst he
    obtain ⟨Q, hQ, hG, hO⟩ := LP.out.1 (by first | trivial | rfl)
    obtain ⟨hp, hcc⟩ := LP.out.2.2 (by first | trivial | rfl)
    subst hp
    subst hcc
    obtain ⟨m, hm⟩ : ∃ m, lA.length = m := ⟨_, rfl⟩
    have HM := hid hm
    have m5 : m ≤ 5000 := by rw [← hm]; exact da.out.2.1
    have hQl : Q.length = m := by rw [← hm, hQ, List.length_map]
    have GE : ∀ k (hk : k < m), gw lA k = (Q[k]'(by omega)).1 := fun k hk => by
      have : k < lA.length := by omega
      unfold gw
      rw [hQ, List.getD_eq_getElem?_getD, List.getElem?_map, List.getElem?_eq_getElem (by omega)]
      rfl
    have GP : Hid (∀ k, k < m → ∃ N, VR N (gw lA k).1 ∧ 1 ≤ N ∧ 1 ≤ (gw lA k).2.1 ∧ 1 ≤ (gw lA k).2.2 ∧ (k + 1 < m → (gw lA k).2.1 < (gw lA (k + 1)).2.1 ∨ (gw lA k).2.1 = (gw lA (k + 1)).2.1 ∧ (gw lA k).2.2 + N < (gw lA (k + 1)).2.2)) := hid (fun k hk => by
      have hkQ : k < Q.length := by omega
      have g := hG (Q[k]'hkQ) (List.getElem_mem hkQ)
      refine ⟨(Q[k]'hkQ).2, by rw [GE k hk]; exact g.vr, g.n1, by rw [GE k hk]; exact g.line, by rw [GE k hk]; exact g.col, fun h1 => ?_⟩
      have h2 : k + 1 < Q.length := by omega
      rw [GE k hk, GE (k + 1) h1]
      exact (List.pairwise_iff_getElem.1 hO) k (k + 1) hkQ h2 (Nat.lt_succ_self k))
    rw [hm] at RA ⊢
    clear LP hQ hG hO hQl GE hm
    go_wp2_with fail
    go_loopw [7] (fun i wr => ∃ k : Nat, k ≤ m ∧ i = .int .i64 k ∧ Keep (fun _ => False) w1 wr) (fun i _ => m - (intOf i).toNat)
    case atStart => exact ⟨0, Nat.zero_le _, rfl, Keep.refl _ _⟩
    case round =>
      obtain ⟨k, hk, rfl, HK0⟩ := hrel
      have HK := hid HK0
      clear HK0
      by_cases hlt : k < m
      · have hltm : (k : Int) < (m : Int) := by omega
        obtain ⟨g, o, c4, hv4, hg, hmx, hcc⟩ := (RA.out.keep HK.out (fun _ _ h => h)).at HM.out (by omega)
        have HV := hid hv4
        simp only [Value.slice.injEq] at hv4
        obtain ⟨rfl, -, rfl⟩ := hv4
        obtain ⟨N, hvr, hN, hl1, hc1, hnx⟩ := GP.out k hlt
        obtain ⟨y1, y2, y3⟩ := hcc k hlt
        have kA : k < lA.length := by rw [HM.out]; exact hlt
        have bd := da.out.1 _ (gw_mem2 lA k kA)
        have tl := tx.out _ (gw_mem2 lA k kA)
        have NXT : Hid (k + 1 < m → wr.cell? ⟨g, o + (k + 1) * 3 + 1, none⟩ = some (.int .i64 ((gw lA (k + 1)).2.1 : Int)) ∧ wr.cell? ⟨g, o + (k + 1) * 3 + 2, none⟩ = some (.int .i64 ((gw lA (k + 1)).2.2 : Int))) := hid (fun h => (hcc (k + 1) h).2)
        have HNX := hid hnx
        obtain ⟨x, hx⟩ : ∃ x, gw lA k = x := ⟨_, rfl⟩
        rw [hx] at y1 y2 y3 bd tl hvr hl1 hc1 HNX
        have bx := bs_size x.1
        have HVR := hid hvr
        unfold maxLen at hmx
        clear hcc hx hnx hvr kA HV
        go_wp2_with fail
        go_loopw [8, 9] (fun a b wr2 => ∃ j p r : Nat, VR r (x.1.drop p) ∧ j + r = N ∧ p ≤ x.1.length ∧ j ≤ p ∧ a = .int .i64 j ∧ b = .int .i64 p ∧ wr = wr2) (fun _ b _ => x.1.length - (intOf b).toNat)
        case atStart => exact ⟨0, 0, N, HVR.out, Nat.zero_add _, Nat.zero_le _, Nat.le_refl _, rfl, rfl, by first | trivial | rfl⟩
        case round =>
          obtain ⟨j, p, r, hvr, hj, hp, hjp, rfl, rfl, rfl⟩ := hrel
          by_cases hpl : p < x.1.length
          · have hpi : (p : Int) < (x.1.length : Int) := by omega
            have hpi2 : (p : Int) ≤ (x.1.length : Int) := by omega
            have hne : x.1.drop p ≠ [] := by
              intro e
              have := congrArg List.length e
              rw [List.length_drop] at this
              simp at this
              omega
            obtain ⟨r', d, hr, hw, hd1, hd2, hv2⟩ := hvr.some hne
            rw [List.drop_drop] at hv2
            rw [List.length_drop] at hd2
            have BE : (bs x.1).extract p x.1.length = bs (x.1.drop p) := by rw [bs_extract, List.take_length]
            have WD := hid (wide_any (x.1.drop p) (by rw [List.length_drop]; omega) wr)
            have HW := hid hw
            have HV2 := hid hv2
            have hd0 : ((d : Int) == 0) = false := by simp; omega
            clear hvr hne hw hv2
            go_wp2_with fail
            refine WD.out.mono ?_
            rintro _ _ ⟨rfl, rfl⟩
            rw [HW.out]
            clear WD HW
            go_wp2_with fail
            go_roundw
            case rel => exact ⟨j + 1, p + d, r', HV2.out, by omega, by omega, by omega, by go_num, by go_num, by first | trivial | rfl⟩
            case measure => simp [intOf]; omega
          · have hpi : ¬ (p : Int) < (x.1.length : Int) := by omega
            have hr0 := hvr.none (List.drop_of_length_le (by omega))
            obtain rfl : j = N := by omega
            have hj0 : ((j : Int) == 0) = false := by simp; omega
            have hl1i : ¬ (x.2.1 : Int) < 1 := by omega
            have hc1i : ¬ (x.2.2 : Int) < 1 := by omega
            clear hvr hr0 hj
            go_wp2_with fail
            go_loopw [11] (fun a wr2 => ∃ q : Nat, q ≤ x.1.length ∧ a = .int .i64 q ∧ wr = wr2) (fun a _ => x.1.length - (intOf a).toNat)
            case atStart => exact ⟨0, Nat.zero_le _, rfl, by first | trivial | rfl⟩
            case round =>
              obtain ⟨q, hq, rfl, rfl⟩ := hrel
              by_cases hql : q < x.1.length
              · have hqi : (q : Int) < (x.1.length : Int) := by omega
                have SI : ∀ h, ((bs x.1)[q]'h).toNat = (x.1.getD q 0).toNat := fun h => bs_get x.1 q h
                have hby := HVR.out.bytes (x.1.getD q 0) (by
                  rw [List.getD_eq_getElem?_getD, List.getElem?_eq_getElem hql]
                  exact List.getElem_mem hql)
                obtain ⟨y, hy⟩ : ∃ y, (x.1.getD q 0).toNat = y := ⟨_, rfl⟩
                rw [hy] at hby
                simp only [hy] at SI
                have e32 : ((y : Int) == 32) = false := by simp; omega
                have e10 : ((y : Int) == 10) = false := by simp; omega
                have e35 : ((y : Int) == 35) = false := by simp; omega
                clear hy hby
                go_wp2_with fail
                go_roundw
                case rel => exact ⟨q + 1, by omega, by go_num, by first | trivial | rfl⟩
                case measure => simp [intOf]; omega
              · obtain rfl : q = x.1.length := by omega
                have hqi : ¬ (x.1.length : Int) < (x.1.length : Int) := by omega
                clear hq hql
                have wk : IntKind.i64.wrap ((k : Int) + 1) = (k : Int) + 1 := IntWalk.i64_in _ ⟨by omega, by omega⟩
                have wc : IntKind.i64.wrap ((x.2.2 : Int) + (j : Int)) = (x.2.2 : Int) + (j : Int) := IntWalk.i64_in _ ⟨by omega, by omega⟩
                by_cases hk1 : k + 1 < m
                · have hk1i : (k : Int) + 1 < (m : Int) := by omega
                  obtain ⟨z2, z3⟩ := NXT.out hk1
                  have od := HNX.out hk1
                  obtain ⟨y, hy⟩ : ∃ y, gw lA (k + 1) = y := ⟨_, rfl⟩
                  rw [hy] at z2 z3 od
                  clear hy
                  have f1 : ¬ (y.2.1 : Int) < (x.2.1 : Int) := by omega
                  rcases od with od | ⟨od1, od2⟩
                  case' inl =>
                    have f2 : ((y.2.1 : Int) == (x.2.1 : Int)) = false := by simp; omega
                  case' inr =>
                    have f2 : ((y.2.1 : Int) == (x.2.1 : Int)) = true := by simp; omega
                    have f3 : ¬ (y.2.2 : Int) ≤ (x.2.2 : Int) + (j : Int) := by omega
                    clear od1 od2
                  all_goals
                    go_wp2_with fail
                    refine wp_region_text [0,0,0,0,0,0,0,0,0,0,0,0,0,0,0,0,0,0,0,0,0,0,0,0,0,0,0,0,0,0,0,0,0,0,0,0,0,0,0,0,0,0,0,0,0,0,0,0,0] (fun W => W.cell? ⟨g, o + k * 3 + 1, none⟩ = some (.int .i64 (x.2.1 : Int)) ∧ W.cell? ⟨g, o + k * 3 + 2, none⟩ = some (.int .i64 (x.2.2 : Int)) ∧ W.cell? ⟨g, o + (k + 1) * 3 + 1, none⟩ = some (.int .i64 (y.2.1 : Int)) ∧ W.cell? ⟨g, o + (k + 1) * 3 + 2, none⟩ = some (.int .i64 (y.2.2 : Int))) (by kernel_rfl) (by kernel_rfl) ⟨y2, y3, z2, z3⟩ ?_
                    repeat (first
                      | (refine' wpT_calm (v := _) (by rfl) (fun W hW => ?_) ?_; rotate_left
                         · ((try dsimp only at hW); go_simp; first | done | rfl)
                         simp only [Act.put, List.setIfInBounds_toArray, List.set_cons_zero, List.set_cons_succ])
                      | (refine' wpT_reads (v := _) (by rfl) ?_ ?_; rotate_left
                         · (go_simp; first | done | rfl)
                         simp only [Act.put, List.setIfInBounds_toArray, List.set_cons_zero, List.set_cons_succ])
                      | (refine wpT_skip (by rfl) rfl ?_; simp only [Act.put, List.setIfInBounds_toArray, List.set_cons_zero, List.set_cons_succ])
                      | (refine wpT_does (by rfl) (fun K hK => ?_); go_simp; refine hK _ _ ?_ ?_
                         · (trivial)
                         clear hK K; try simp only [Act.put, List.setIfInBounds_toArray, List.set_cons_zero, List.set_cons_succ])
                      | (refine wpT_last (by rfl) (fun K hK => ?_); go_simp; refine hK _ _ ?_; clear hK K)
                      | (refine wpT_nil ?_))
                    try simp only [show decide (y.2.1 < x.2.1) = false from decide_eq_false (by omega)]
                    repeat (first
                      | (refine' wpT_calm (v := _) (by rfl) (fun W hW => ?_) ?_; rotate_left
                         · ((try dsimp only at hW); go_simp; first | done | rfl)
                         simp only [Act.put, List.setIfInBounds_toArray, List.set_cons_zero, List.set_cons_succ])
                      | (refine' wpT_reads (v := _) (by rfl) ?_ ?_; rotate_left
                         · (go_simp; first | done | rfl)
                         simp only [Act.put, List.setIfInBounds_toArray, List.set_cons_zero, List.set_cons_succ])
                      | (refine wpT_skip (by rfl) rfl ?_; simp only [Act.put, List.setIfInBounds_toArray, List.set_cons_zero, List.set_cons_succ])
                      | (refine wpT_does (by rfl) (fun K hK => ?_); go_simp; refine hK _ _ ?_ ?_
                         · (trivial)
                         clear hK K; try simp only [Act.put, List.setIfInBounds_toArray, List.set_cons_zero, List.set_cons_succ])
                      | (refine wpT_last (by rfl) (fun K hK => ?_); go_simp; refine hK _ _ ?_; clear hK K)
                      | (refine wpT_nil ?_))
                    go_wp2_with fail
                    go_roundw
                    case rel => exact ⟨k + 1, by omega, by go_num, HK.out.drew⟩
                    case measure => simp [intOf]; omega
                · have hk1i : ¬ (k : Int) + 1 < (m : Int) := by omega
                  go_wp2_with fail
                  refine wp_region_text [0,0,0,0,0,0,0,0,0,0,0,0,0,0,0,0,0,0,0,0,0,0,0,0,0,0,0,0,0,0,0,0,0,0,0,0,0,0,0,0,0,0,0,0,0,0,0,0,0] (fun _ => True) (by kernel_rfl) (by kernel_rfl) trivial ?_
                  repeat (first
                    | (refine' wpT_calm (v := _) (by rfl) (fun W hW => ?_) ?_; rotate_left
                       · ((try dsimp only at hW); go_simp; first | done | rfl)
                       simp only [Act.put, List.setIfInBounds_toArray, List.set_cons_zero, List.set_cons_succ])
                    | (refine' wpT_reads (v := _) (by rfl) ?_ ?_; rotate_left
                       · (go_simp; first | done | rfl)
                       simp only [Act.put, List.setIfInBounds_toArray, List.set_cons_zero, List.set_cons_succ])
                    | (refine wpT_skip (by rfl) rfl ?_; simp only [Act.put, List.setIfInBounds_toArray, List.set_cons_zero, List.set_cons_succ])
                    | (refine wpT_does (by rfl) (fun K hK => ?_); go_simp; refine hK _ _ ?_ ?_
                       · (trivial)
                       clear hK K; try simp only [Act.put, List.setIfInBounds_toArray, List.set_cons_zero, List.set_cons_succ])
                    | (refine wpT_last (by rfl) (fun K hK => ?_); go_simp; refine hK _ _ ?_; clear hK K)
                    | (refine wpT_nil ?_))
                  simp only [show decide ((k : Int) + 1 < (m : Int)) = false from decide_eq_false (by omega)]
                  repeat (first
                    | (refine' wpT_calm (v := _) (by rfl) (fun W hW => ?_) ?_; rotate_left
                       · ((try dsimp only at hW); go_simp; first | done | rfl)
                       simp only [Act.put, List.setIfInBounds_toArray, List.set_cons_zero, List.set_cons_succ])
                    | (refine' wpT_reads (v := _) (by rfl) ?_ ?_; rotate_left
                       · (go_simp; first | done | rfl)
                       simp only [Act.put, List.setIfInBounds_toArray, List.set_cons_zero, List.set_cons_succ])
                    | (refine wpT_skip (by rfl) rfl ?_; simp only [Act.put, List.setIfInBounds_toArray, List.set_cons_zero, List.set_cons_succ])
                    | (refine wpT_does (by rfl) (fun K hK => ?_); go_simp; refine hK _ _ ?_ ?_
                       · (trivial)
                       clear hK K; try simp only [Act.put, List.setIfInBounds_toArray, List.set_cons_zero, List.set_cons_succ])
                    | (refine wpT_last (by rfl) (fun K hK => ?_); go_simp; refine hK _ _ ?_; clear hK K)
                    | (refine wpT_nil ?_))
                  go_wp2_with fail
                  go_roundw
                  case rel => exact ⟨k + 1, by omega, by go_num, HK.out.drew⟩
                  case measure => simp [intOf]; omega
      · obtain rfl : k = m := by omega
        have hki : ¬ (k : Int) < (k : Int) := by omega
        clear hk hlt
        go_wp2_with fail
        refine (lawake_any _).mono ?_
        rintro _ w4 ⟨rfl, k4⟩
        have K4 := hid ((K1.out.trans (HK.out.mono (fun _ _ h => h.elim))).trans k4)
        clear k4 K1 HK
        go_wp2_with fail
        go_ret
        exact ⟨by rfl, K4.out.below (fun _ h => h.elim) (Nat.le_refl _)⟩
  · have he' : ((eA : Int) != 0) = true := by simp; omega
    obtain ⟨hl0, hcase⟩ := LP.out.2.1 he
    have hl1 : ((lA.length : Int) == 0) = true := by simp [hl0]
    clear LP hl0 he
    rcases hcase with ⟨rfl, hp1, hc1⟩ | ⟨rfl, hbig, rfl, rfl⟩
    case' inl =>
      have i1 : (pA : Int) > 0 := by omega
      have i2 : (cA : Int) > 0 := by omega
    case' inr =>
      have i1 : (s.length : Int) > 4096 := by omega
    all_goals
      go_wp2_with fail
      refine (lawake_any _).mono ?_
      rintro _ w4 ⟨rfl, k4⟩
      have K4 := hid (K1.out.trans k4)
      clear k4 K1
      go_wp2_with fail
      go_ret
      exact ⟨by rfl, K4.out.below (fun _ h => h.elim) (Nat.le_refl _)⟩
theorem walk_LexPlaces (w : World) (A : ByteArray) (hA : A.size ≤ 140737488351232) :
    Calls Try.prog 6 #[.string A] w fun e w' => e = .returned (.bool true) ∧ Below w.heap.size w w' := by
  have := walk_LexPlaces' w A.toList (by rw [size_list]; exact hA)
  rwa [bs_of] at this
end Go.Proofs.Ytknlhbbkjgkjpaa
