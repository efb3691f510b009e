/- The document's Words; and LexWords. -/
import Derived.Test.YtknlhbbkjgkjpaaLexQ
namespace Go.Proofs.Ytknlhbbkjgkjpaa
open Go Go.RowKit

theorem one_le (x : By) (line : Nat) (T1 : LS) (h : lexL x.length x (tL [] line) = .inr T1) : T1.ws.length ≤ x.length + 1 := by
  have := (lexL_bd (line + x.length) x.length x (tL [] line) ⟨fun y hy => (by cases hy), fun y c e => (by cases e)⟩ (Nat.le_refl _) (by show 0 + x.length ≤ _; omega)).2 T1 h
  have h2 : T1.ws.length ≤ 0 + x.length + 1 := this.2
  omega
/-- Where one is between the lines. -/
structure Lin (T : LS) (l : By) (i fr line : Nat) (ws : List W3) : Prop where
  ex : (i ≤ l.length ∧ fr ≤ i ∧ (10 : UInt8) ∉ (l.take i).drop fr ∧ lexL (l.drop fr).length (l.drop fr) (tL ws line) = .inr T) ∨ (i = l.length + 1 ∧ ws = T.ws)
  line : line ≤ fr + 1
  num : ws.length ≤ 2 * fr
  fr : fr ≤ l.length + 1
theorem Lin.end {T : LS} {l : By} {fr line : Nat} {ws : List W3} (h : Lin T l (l.length + 1) fr line ws) : ws = T.ws := by
  rcases h.ex with ⟨h1, _⟩ | ⟨_, h1⟩
  · omega
  · exact h1
theorem Lin.le {T : LS} {l : By} {i fr line : Nat} {ws : List W3} (h : Lin T l i fr line ws) : i ≤ l.length + 1 := by
  rcases h.ex with ⟨h1, _⟩ | ⟨h1, _⟩ <;> omega
theorem Lin.stay {T : LS} {l : By} {i fr line : Nat} {ws : List W3} (h : Lin T l i fr line ws) (hi : i < l.length) (hx : (l.getD i 0).toNat ≠ 10) : Lin T l (i + 1) fr line ws := by
  rcases h.ex with ⟨h1, h2, h3, h4⟩ | ⟨h1, _⟩
  · refine ⟨.inl ⟨by omega, by omega, ?_, h4⟩, h.line, h.num, h.fr⟩
    rw [List.take_succ_eq_append_getElem hi, List.drop_append_of_le_length (by rw [List.length_take]; omega), List.mem_append, not_or]
    refine ⟨h3, ?_⟩
    rw [List.mem_singleton]
    intro e
    apply hx
    rw [List.getD_eq_getElem?_getD, List.getElem?_eq_getElem hi]
    show (l[i]).toNat = 10
    rw [← e]
    rfl
  · omega
/-- At a line's end. -/
theorem Lin.next {T : LS} {l : By} {i fr line : Nat} {ws : List W3} (h : Lin T l i fr line ws) (hi : i ≤ l.length) (hx : i = l.length ∨ (i < l.length ∧ (l.getD i 0).toNat = 10)) :
    fr ≤ i ∧ (10 : UInt8) ∉ (l.take i).drop fr ∧ ∃ T1, lexL ((l.take i).drop fr).length ((l.take i).drop fr) (tL [] line) = .inr T1 ∧ Lin T l (i + 1) (i + 1) (line + 1) (ws ++ T1.ws) ∧ T1.ws.length ≤ i - fr + 1 := by
  have hline := h.line
  have hnum := h.num
  rcases h.ex with ⟨h1, h2, h3, h4⟩ | ⟨h1, _⟩
  · have hlen : ((l.take i).drop fr).length = i - fr := by rw [List.length_drop, List.length_take]; omega
    refine ⟨h2, h3, ?_⟩
    rcases hx with rfl | ⟨hlt, hx⟩
    · rw [List.take_length] at h3 hlen ⊢
      obtain ⟨T1, e1, e2⟩ := line_end _ ws line T h4
      have hn := one_le _ line T1 e1
      rw [hlen] at hn
      refine ⟨T1, e1, ⟨.inr ⟨rfl, e2.symm⟩, by omega, by rw [List.length_append]; omega, by omega⟩, hn⟩
    · have e0 : l.drop fr = (l.take i).drop fr ++ 10 :: l.drop (i + 1) := by
        have : l[i] = 10 := by
          rw [List.getD_eq_getElem?_getD, List.getElem?_eq_getElem hlt] at hx
          exact UInt8.toNat_inj.1 hx
        rw [← this, List.getElem_cons_drop, ← List.drop_append_of_le_length (by rw [List.length_take]; omega), List.take_append_drop]
      rw [e0] at h4
      obtain ⟨T1, e1, e2⟩ := line_step _ _ h3 ws line T h4
      have hn := one_le _ line T1 e1
      rw [hlen] at hn
      refine ⟨T1, e1, ⟨.inl ⟨by omega, Nat.le_refl _, ?_, e2⟩, by omega, by rw [List.length_append]; omega, by omega⟩, hn⟩
      rw [List.drop_of_length_le (by rw [List.length_take]; omega)]
      simp
  · omega

set_option maxRecDepth 10000 in
set_option maxHeartbeats 1000000 in
theorem rwords_any (l0 : By) (hl0 : l0.length ≤ 4611686018427387904) (w : World) :
    Calls Try.prog 13 #[.string (bs l0)] w fun e w' => ∃ v, e = .returned (.tuple #[v, .int .i64 ((lexR l0).2.1 : Int), .int .i64 ((lexR l0).2.2.1 : Int), .int .i64 ((lexR l0).2.2.2 : Int)]) ∧ OwnW w' v (lexR l0).1 ∧ (∀ k, v.ownBlock = some k → w.heap.size ≤ k) ∧ Keep (fun _ => False) w w' := by
  have bl := bs_size l0
  have K0 : Keep (fun _ => False) w (w.alloc (.cells #[] 32)) := (Keep.refl _ _).alloc _
  have HK0 := hid K0
  have F0 : Hid (∀ k, (Value.slice (some ⟨w.heap.size, 0, none⟩) 0 0).ownBlock = some k → w.heap.size ≤ k) := hid (fun k hk => by cases hk; exact Nat.le_refl _)
  clear K0
  by_cases hbig : l0.length > 4096
  · have hR : lexR l0 = ([], 13, 0, 0) := by unfold lexR; rw [if_pos hbig]
    rw [hR]
    have h1 : (l0.length : Int) > 4096 := by omega
    clear hR hbig
    go_enter Try.func13, Try.ntmps13
    go_wp2_with fail
    (try simp only [Exit.inBlock, Exit.then])
    refine bodyPost_ret (results_tmp4 rfl _ _ _) rfl ?_
    exact ⟨_, rfl, made_rowW w, F0.out, HK0.out⟩
  · have hR : lexR l0 = finR (lexL l0.length l0 lex0) := by unfold lexR; rw [if_neg hbig]
    have P1 : lexL l0.length l0 lex0 = lexL l0.length l0 lex0 → (∀ p, lexL l0.length l0 lex0 = .inl p → 1 ≤ p.1) := fun _ p e => by
      have h2 := (lex_places l0).2.1
      rw [hR, e] at h2
      have h3 := (h2 (by simp [finR])).2
      rcases h3 with h3 | h3
      · exact h3.2.1
      · exact absurd h3.2.1 hbig
    have P2 := P1 rfl
    rw [hR]
    obtain ⟨R, hRR⟩ : ∃ R, lexL l0.length l0 lex0 = R := ⟨_, rfl⟩
    have HB := hid (badr_any l0 (by omega) (w.alloc (.cells #[] 32)) R hRR)
    rw [hRR] at P2 ⊢
    have h1 : ¬ (l0.length : Int) > 4096 := by omega
    cases R with
    | inl p =>
      obtain ⟨pl, pc⟩ := p
      have hp := P2 _ rfl
      have hpi : (pl : Int) > 0 := by dsimp only at hp; omega
      clear P1 P2 hRR hR hp
      go_enter Try.func13, Try.ntmps13
      go_wp2_with fail
      refine HB.out.mono ?_
      rintro _ _ ⟨rfl, rfl⟩
      simp only [badR]
      clear HB
      go_wp2_with fail
      (try simp only [Exit.inBlock, Exit.then])
      refine bodyPost_ret (results_tmp4 rfl _ _ _) rfl ?_
      exact ⟨_, rfl, made_rowW w, F0.out, HK0.out⟩
    | inr T =>
      have L0 : Lin T l0 0 0 1 [] := ⟨.inl ⟨by omega, by omega, by simp, hRR⟩, by omega, by simp, by omega⟩
      have HL0 := hid L0
      clear P1 P2 hRR hR L0
      go_enter Try.func13, Try.ntmps13
      go_wp2_with fail
      refine HB.out.mono ?_
      rintro _ _ ⟨rfl, rfl⟩
      simp only [badR]
      clear HB
      go_wp2_with fail
      go_loopw [6, 9, 10, 11] (fun ov lv fv iv wr => ∃ (ws : List W3) (i fr line : Nat) (a : Option Addr) (c n : Nat), Lin T l0 i fr line ws ∧ ws.length = n ∧ OwnW wr (.slice a n c) ws ∧ (∀ k, (Value.slice a n c).ownBlock = some k → w.heap.size ≤ k) ∧ Keep (fun _ => False) w wr ∧ ov = .slice a n c ∧ lv = .int .i64 line ∧ fv = .int .i64 fr ∧ iv = .int .i64 i) (fun _ _ _ iv _ => l0.length + 1 - (intOf iv).toNat)
      case atStart => exact ⟨[], 0, 0, 1, _, 0, 0, HL0.out, rfl, made_rowW w, F0.out, HK0.out, rfl, rfl, rfl, rfl⟩
      case round =>
        obtain ⟨ws, i, fr, line, a, c, n, hL, hn, hO, hF, hK, rfl, rfl, rfl, rfl⟩ := hrel
        have HO := hid hO
        have HF := hid hF
        have KK := hid hK
        have HN := hid hn
        have b1 := hL.line
        have b2 := hL.num
        have b3 := hL.fr
        have b4 := hL.le
        rw [hn] at b2
        by_cases hle : i ≤ l0.length
        · have hli : (i : Int) ≤ (l0.length : Int) := by omega
          have hend : ∀ (hx : i = l0.length ∨ (i < l0.length ∧ (l0.getD i 0).toNat = 10)), _ := hL.next hle
          by_cases hx : i = l0.length ∨ (i < l0.length ∧ (l0.getD i 0).toNat = 10)
          · obtain ⟨g1, g2, T1, g3, g4, g5⟩ := hend hx
            have OA := hid (one_any ((l0.take i).drop fr) (by rw [List.length_drop, List.length_take]; omega) g2 line (by omega) T1 g3 wr)
            have HL := hid g4
            have BE : (bs l0).extract fr i = bs ((l0.take i).drop fr) := bs_extract l0 fr i
            have gi : (fr : Int) ≤ (i : Int) := by omega
            have SI : ∀ h, ((bs l0)[i]'h).toNat = (l0.getD i 0).toNat := fun h => bs_get l0 i h
            clear hend hL hO hF hK hn g2 g3 g4
            rcases hx with hx | ⟨hx1, hx2⟩
            case' inl =>
              subst hx
              rw [List.take_length] at OA BE
              clear SI
            case' inr =>
              have hq : ((i : Int) == (l0.length : Int)) = false := by simp; omega
              rw [hx2] at SI
              clear hx2
            all_goals
              go_wp2_with fail
              refine OA.out.mono ?_
              rintro _ w2 ⟨v2, rfl, o2, f2, k2⟩
              have hown := HO.out.keep k2 (fun _ _ h => h)
              have hsrc : Src w2 v2 T1.ws.length 3 (flatW T1.ws) := owns_src o2 (flatW_one _)
              have K2 := hid (KK.out.trans k2)
              clear OA o2 f2 k2 KK HO
              obtain ⟨m, hm⟩ : ∃ m, T1.ws.length = m := ⟨_, rfl⟩
              have HM := hid hm
              rw [hm] at hsrc g5
              clear hm
              go_wp2_with (at_builtin; refine wpList_plain rfl (fun K hK => wp_append_words _ (.tmp 43) (.tmp 49) rfl (.slice a n c) ws rfl hown v2 m T1.ws rfl hsrc (by rw [HN.out]; omega) ?_))
              intro v1 w1 o1 f1 k1
              obtain ⟨a1, c1, hv1⟩ := o1.form
              rw [List.length_append, HN.out, HM.out] at hv1
              subst hv1
              refine hK _ _ ?_
              clear hK K
              have K3 := hid (K2.out.then k1 (fun k hk => .inr (HF.out k hk)))
              have F3 : Hid (∀ k, (Value.slice a1 (n + m) c1).ownBlock = some k → w.heap.size ≤ k) := hid (fun k hk => (f1 k hk).elim (HF.out k) (fun h => by have := K2.out.size; omega))
              have O3 := hid o1
              clear o1 f1 k1 hown hsrc
              go_wp2_with fail
              refine ⟨⟨_, _, _, _, _, _, _, _, _, _, _, _, _, _, _, _, _, _, _, _, _, _, _, _, _, _, _, _, _, _, _, _, ?rel, rfl⟩, ?measure⟩
              case rel => exact ⟨ws ++ T1.ws, _, _, _, a1, c1, n + m, HL.out, by rw [List.length_append, HN.out, HM.out], O3.out, F3.out, K3.out, rfl, by go_num, by go_num, by go_num⟩
              case measure => first | (simp [intOf]; done) | (simp [intOf]; omega)
          · have hx1 : i < l0.length := by omega
            have hx2 : (l0.getD i 0).toNat ≠ 10 := fun e => hx (.inr ⟨hx1, e⟩)
            have hL2 := hid (hL.stay hx1 hx2)
            have SI : ∀ h, ((bs l0)[i]'h).toNat = (l0.getD i 0).toNat := fun h => bs_get l0 i h
            have hq : ((i : Int) == (l0.length : Int)) = false := by simp; omega
            obtain ⟨y, hy⟩ : ∃ y, (l0.getD i 0).toNat = y := ⟨_, rfl⟩
            rw [hy] at hx2
            simp only [hy] at SI
            have f10 : ((y : Int) == 10) = false := by simp; omega
            clear hend hL hO hF hK hn hx hx2 hy
            go_wp2_with fail
            go_roundw
            case rel => exact ⟨ws, i + 1, fr, line, a, c, n, hL2.out, HN.out, HO.out, HF.out, KK.out, rfl, rfl, rfl, by go_num⟩
            case measure => simp [intOf]; omega
        · obtain rfl : i = l0.length + 1 := by omega
          have hli : ¬ (l0.length : Int) + 1 ≤ (l0.length : Int) := by omega
          have hW := hid hL.end
          clear hL hO hF hK hn
          go_wp2_with fail
          (try simp only [Exit.inBlock, Exit.then])
          refine bodyPost_ret (results_tmp4 rfl _ _ _) rfl ?_
          exact ⟨_, rfl, by show OwnW _ _ T.ws; rw [← hW.out]; exact HO.out, HF.out, KK.out⟩

set_option maxRecDepth 10000 in
set_option maxHeartbeats 1000000 in
theorem walk_LexWords' (w : World) (s : By) (hs : s.length ≤ 140737488351232) :
    Calls Try.prog 3 #[.string (bs s)] w fun e w' => e = .returned (.bool true) ∧ Below w.heap.size w w' := by
  have WA := hid (words_any s (by omega))
  have WB := hid (rwords_any s (by omega))
  obtain ⟨A, hA⟩ : ∃ A, lexR s = A := ⟨_, rfl⟩
  rw [hA] at WA WB
  obtain ⟨lA, eA, pA, cA⟩ := A
  dsimp only at WA WB
  clear hA
  go_enter Try.func3, Try.ntmps3
  go_wp2_with fail
  refine (WA.out w).mono ?_
  rintro _ w1 ⟨v1, rfl, cl1, k1⟩
  have R1 := hid cl1.reads
  have K1 := hid k1
  clear WA cl1 k1
  go_wp2_with fail
  refine (WB.out w1).mono ?_
  rintro _ w2 ⟨v2, rfl, o2, f2, k2⟩
  have R12 := hid (R1.out.keep k2 (fun _ _ h => h))
  have R2 := hid o2.reads
  have K2 := hid (K1.out.trans k2)
  clear WB o2 f2 k2 K1 R1
  go_wp2_with fail
  refine (lawake_any w2).mono ?_
  rintro _ w3 ⟨rfl, k3⟩
  have R13 := hid (R12.out.keep k3 (fun _ _ h => h))
  have R23 := hid (R2.out.keep k3 (fun _ _ h => h))
  have K3 := hid (K2.out.trans k3)
  clear k3 K2 R12 R2
  go_wp2_with fail
  refine (alike_any R13.out R23.out).mono ?_
  rintro _ w4 ⟨rfl, k4⟩
  have K4 := hid (K3.out.trans k4)
  clear k4 K3 R13 R23
  rw [decide_eq_true rfl]
  go_wp2_with fail
  go_ret
  exact ⟨by rfl, K4.out.below (fun _ h => h.elim) (Nat.le_refl _)⟩
theorem walk_LexWords (w : World) (A : ByteArray) (hA : A.size ≤ 140737488351232) :
    Calls Try.prog 3 #[.string A] w fun e w' => e = .returned (.bool true) ∧ Below w.heap.size w w' := by
  have := walk_LexWords' w A.toList (by rw [size_list]; exact hA)
  rwa [bs_of] at this
end Go.Proofs.Ytknlhbbkjgkjpaa
