/- The walk of FairWaits. -/
import Derived.Test.YthnocalnlonniaaFjG
namespace Go.Proofs.Ythnocalnlonniaa
open Go Go.RowKit

theorem slot_at {w : World} {a0 : Option Addr} {c0 : Nat} {s : List (Int × Int)} (h : SlotsR w (.slice a0 s.length c0) s) {k : Nat} {p : Int × Int} (hp : s[k]? = some p) : ∃ g off, a0 = some ⟨g, off, none⟩ ∧ g < w.heap.size ∧ s.length ≤ maxLen ∧ w.cell? ⟨g, off + k * 2, none⟩ = some (.int .i64 p.1) := by
  rcases h with ⟨_, _, _, h0⟩ | ⟨g, off, c1, h1, h2, h3, h4, h5⟩
  · rw [h0] at hp; simp at hp
  · simp only [Value.slice.injEq] at h1
    exact ⟨g, off, h1.1, h2, Nat.le_trans h3 h4, (h5 k _ hp).1⟩

set_option maxRecDepth 10000 in
set_option maxHeartbeats 8000000 in
theorem walk_FairWaits (w : World) (v : Value) (s : List (Int × Int)) (h : SlotsR w v s) (dom : Int) (_ : (Lit.int .i64 dom).wf = true) (t : Int) (_ : (Lit.int .i64 t).wf = true) :
    Calls Try.prog 10 #[v, .int .i64 dom, .int .i64 t] w fun en w' => en = .returned (.bool true) ∧ Below w.heap.size w w' := by
  obtain ⟨a0, c0, hv⟩ := h.form
  subst hv
  have H := hid h
  have hgb := gap_bd s dom
  have hcb := cyc_bd s
  have SP := hid (share_pos s dom)
  have GC := hid (gap_cyc s dom)
  have WG := hid (wait_gap s dom t)
  have NO := hid (fun hx => next_no s dom hx t)
  have GN := hid (fun hx => next_no s dom hx 0 (by omega) (by omega))
  have GE : Hid (gapOf s dom = if (nextOf s dom 0).2 then gapGo s dom ((nextOf s dom 0).1 + cyc s) 257 (nextOf s dom 0).1 0 else 0) := hid rfl
  have SB := hid (shK_bd s dom s.length)
  have UC := hid (U_cyc s)
  obtain ⟨c, hc⟩ : ∃ c, cyc s = c := ⟨_, rfl⟩
  have HC := hid hc
  rw [hc] at hcb
  clear h hc
  obtain ⟨g, hg⟩ : ∃ g, gapOf s dom = g := ⟨_, rfl⟩
  have HG := hid hg
  rw [hg] at hgb
  clear hg
  go_enter Try.func10, Try.ntmps10
  go_wp2_with fail
  refine (cycle_any H.out).mono ?_
  rintro _ w1 ⟨rfl, B1⟩
  have k1 := keep_below B1
  have S1 := hid (H.out.keep k1 (fun _ _ h => h))
  have K1 := hid k1
  rw [HC.out]
  clear B1 k1
  go_wp2_with fail
  refine (fgap_any dom S1.out).mono ?_
  rintro _ w2 ⟨rfl, k2⟩
  have S2 := hid (S1.out.keep k2 (fun _ _ h => h))
  have K2 := hid (K1.out.trans k2)
  rw [HG.out]
  clear k2
  rcases (by omega : t < 0 ∨ (0 ≤ t ∧ 2305843009213693952 < t) ∨ (0 ≤ t ∧ t ≤ 2305843009213693952)) with h1 | ⟨h1, h2⟩ | ⟨h1, h2⟩
  case inr.inr =>
    -- what holds of the tick, whether the domain has a slot or not
    have cs : ∃ (n : Int) (ok : Bool) (sh : Int), nextOf s dom t = (n, ok) ∧ shareOf s dom = sh ∧ 0 ≤ sh ∧ sh ≤ 256 ∧ ((ok = true ∧ 0 < g ∧ g ≤ c ∧ 0 < sh ∧ t ≤ n ∧ n ≤ t + 256 ∧ n - t < g) ∨ (ok = false ∧ n = 0 ∧ g = 0 ∧ sh = 0)) := by
      have sb := SB.out
      by_cases hex : ∃ e ∈ entsOf s, e.dom = dom
      · obtain ⟨n, e1, e2, e3, e4⟩ := WG.out h1 h2 hex
        have e5 := GC.out hex
        rw [HG.out] at e4 e5
        rw [HC.out] at e5
        exact ⟨n, true, _, e1, rfl, sb.1, by have := sb.2; show shK s dom s.length ≤ 256; omega, .inl ⟨rfl, by omega, e5, SP.out.2 hex, e2, e3, e4⟩⟩
      · have e1 := NO.out hex h1 h2
        have e2 := GE.out
        rw [GN.out hex, HG.out] at e2
        have e3 : ¬ 0 < shareOf s dom := fun h => hex (SP.out.1 h)
        have e4 : 0 ≤ shareOf s dom := sb.1
        exact ⟨0, false, _, e1, rfl, sb.1, by omega, .inr ⟨rfl, rfl, e2, by omega⟩⟩
    obtain ⟨n, ok, sh, hn, hsh, sh0, sh1, cs⟩ := cs
    have HN := hid hn
    have HSh := hid hsh
    clear hn hsh SP GC WG NO GN GE SB
    go_wp2_with fail
    refine (tnext_any dom t S2.out).mono ?_
    rintro _ w3 ⟨rfl, B3⟩
    have k3 := keep_below B3
    have S3 := hid (S2.out.keep k3 (fun _ _ h => h))
    have K3 := hid (K2.out.trans k3)
    rw [HN.out]
    clear B3 k3
    rcases cs with ⟨rfl, c1, c2, c3, c4, c5, c6⟩ | ⟨rfl, rfl, rfl, rfl⟩
    all_goals
      go_wp2_with fail
      refine (fshare_any dom S3.out).mono ?_
      rintro _ w4 ⟨rfl, k4⟩
      have S4 := hid (S3.out.keep k4 (fun _ _ h => h))
      have K4 := hid (K3.out.trans k4)
      rw [HSh.out]
      clear k4
      go_wp2_with fail
      go_loopw [11, 12] (fun m i wr => ∃ k : Nat, k ≤ s.length ∧ i = .int .i64 k ∧ m = .int .i64 (U s k s.length) ∧ Keep (fun _ => False) w4 wr) (fun _ i _ => s.length - (intOf i).toNat)
      case atStart => exact ⟨0, Nat.zero_le _, rfl, by rw [U_zero], Keep.refl _ _⟩
      case round =>
        obtain ⟨k, hk, rfl, rfl, hK⟩ := hrel
        have KK := hid hK
        have ub := U_bd s k s.length
        clear hK
        by_cases hlt : k < s.length
        · have hlt1 : (k : Int) < (s.length : Int) := by omega
          obtain ⟨⟨d, l⟩, hp⟩ : ∃ p, s[k]? = some p := ⟨_, List.getElem?_eq_getElem hlt⟩
          have US := hid (U_succ hp s.length)
          obtain ⟨gb, off, rfl, hgl, hmx, kd⟩ := slot_at S4.out hp
          dsimp only at kd
          have KD := hid kd
          have HP := hid hp
          unfold maxLen at hmx
          obtain ⟨X, hX⟩ : ∃ X, U s k s.length = X := ⟨_, rfl⟩
          rw [hX] at ub US ⊢
          clear hp kd hX
          go_wp2_with fail
          go_loopw [13, 14] (fun f j wz => ∃ i : Nat, i ≤ k ∧ j = .int .i64 i ∧ f = .bool (!seen s i d) ∧ Keep (fun _ => False) w4 wz) (fun _ j _ => k - (intOf j).toNat)
          case atStart => exact ⟨0, Nat.zero_le _, rfl, by rw [seen_zero]; rfl, KK.out⟩
          case round =>
            obtain ⟨i, hi, rfl, rfl, hKz⟩ := hrel
            have KZ := hid hKz
            clear hKz
            by_cases hil : i < k
            · have hil1 : (i : Int) < (k : Int) := by omega
              obtain ⟨⟨d2, l2⟩, hq⟩ : ∃ p, s[i]? = some p := ⟨_, List.getElem?_eq_getElem (by omega)⟩
              obtain ⟨gb2, off2, he2, _, _, kd2⟩ := slot_at S4.out hq
              simp only [Option.some.injEq, Addr.mk.injEq, and_true] at he2
              obtain ⟨rfl, rfl⟩ := he2
              dsimp only at kd2
              have kd2 := (KZ.out.cell (p := ⟨gb, off + i * 2, none⟩) hgl (fun h => h)).trans kd2
              have kd := (KZ.out.cell (p := ⟨gb, off + k * 2, none⟩) hgl (fun h => h)).trans KD.out
              have SS := hid (seen_succ hq d)
              dsimp only at SS
              have hi1 : (i : Int) < (s.length : Int) := by omega
              have KZ2 := hid (KZ.out.trans ((Keep.refl _ _).drew))
              obtain ⟨b, hb⟩ : ∃ b, seen s i d = b := ⟨_, rfl⟩
              rw [hb] at SS ⊢
              clear hb hq
              cases b
              · by_cases hd : d2 = d
                · have e : Hid (seen s (i + 1) d = true) := hid (by rw [SS.out]; simp [hd])
                  have hdb : (d2 != d) = false := by simp [hd]
                  clear SS hd
                  go_wp2_with fail
                  refine wp_region_text [0,0,0,0,0,0,1,0,0,0,0,1,0,0,0] (fun _ => True) (by kernel_rfl) (by kernel_rfl) trivial ?_
                  repeat (first
                    | (refine' wpT_calm (v := _) (by rfl) (fun W hW => ?_) ?_; rotate_left
                       · ((try dsimp only at hW); go_simp; first | done | rfl)
                       simp only [Act.put, List.setIfInBounds_toArray, List.set_cons_zero, List.set_cons_succ])
                    | (refine' wpT_reads (v := _) (by rfl) ?_ ?_; rotate_left
                       · (go_simp; first | done | rfl)
                       simp only [Act.put, List.setIfInBounds_toArray, List.set_cons_zero, List.set_cons_succ])
                    | (refine wpT_skip (by rfl) rfl ?_; simp only [Act.put, List.setIfInBounds_toArray, List.set_cons_zero, List.set_cons_succ])
                    | (refine wpT_does (by rfl) (fun K hK => ?_); go_simp; refine hK _ _ ?_ ?_
                       · (trivial)
                       clear hK K; try simp only [Act.put, List.setIfInBounds_toArray, List.set_cons_zero, List.set_cons_succ])
                    | (refine wpT_last (by rfl) (fun K hK => ?_); go_simp; refine hK _ _ ?_; clear hK K)
                    | (refine wpT_nil ?_))
                  go_wp2_with fail
                  go_roundw
                  case rel => exact ⟨i + 1, by omega, by go_num, by rw [e.out]; rfl, KZ2.out⟩
                  case measure => simp [intOf]; omega
                · have e : Hid (seen s (i + 1) d = false) := hid (by rw [SS.out]; simp [hd])
                  have hdb : (d2 != d) = true := by simp [hd]
                  clear SS hd
                  go_wp2_with fail
                  refine wp_region_text [0,0,0,0,0,0,1,0,0,0,0,1,0,0,0] (fun _ => True) (by kernel_rfl) (by kernel_rfl) trivial ?_
                  repeat (first
                    | (refine' wpT_calm (v := _) (by rfl) (fun W hW => ?_) ?_; rotate_left
                       · ((try dsimp only at hW); go_simp; first | done | rfl)
                       simp only [Act.put, List.setIfInBounds_toArray, List.set_cons_zero, List.set_cons_succ])
                    | (refine' wpT_reads (v := _) (by rfl) ?_ ?_; rotate_left
                       · (go_simp; first | done | rfl)
                       simp only [Act.put, List.setIfInBounds_toArray, List.set_cons_zero, List.set_cons_succ])
                    | (refine wpT_skip (by rfl) rfl ?_; simp only [Act.put, List.setIfInBounds_toArray, List.set_cons_zero, List.set_cons_succ])
                    | (refine wpT_does (by rfl) (fun K hK => ?_); go_simp; refine hK _ _ ?_ ?_
                       · (trivial)
                       clear hK K; try simp only [Act.put, List.setIfInBounds_toArray, List.set_cons_zero, List.set_cons_succ])
                    | (refine wpT_last (by rfl) (fun K hK => ?_); go_simp; refine hK _ _ ?_; clear hK K)
                    | (refine wpT_nil ?_))
                  go_wp2_with fail
                  go_roundw
                  case rel => exact ⟨i + 1, by omega, by go_num, by rw [e.out]; rfl, KZ2.out⟩
                  case measure => simp [intOf]; omega
              · have e : Hid (seen s (i + 1) d = true) := hid (by rw [SS.out]; rfl)
                clear SS
                go_wp2_with fail
                refine wp_region_text [0,0,0,0,0,0,1,0,0,0,0,1,0,0,0] (fun _ => True) (by kernel_rfl) (by kernel_rfl) trivial ?_
                repeat (first
                  | (refine' wpT_calm (v := _) (by rfl) (fun W hW => ?_) ?_; rotate_left
                     · ((try dsimp only at hW); go_simp; first | done | rfl)
                     simp only [Act.put, List.setIfInBounds_toArray, List.set_cons_zero, List.set_cons_succ])
                  | (refine' wpT_reads (v := _) (by rfl) ?_ ?_; rotate_left
                     · (go_simp; first | done | rfl)
                     simp only [Act.put, List.setIfInBounds_toArray, List.set_cons_zero, List.set_cons_succ])
                  | (refine wpT_skip (by rfl) rfl ?_; simp only [Act.put, List.setIfInBounds_toArray, List.set_cons_zero, List.set_cons_succ])
                  | (refine wpT_does (by rfl) (fun K hK => ?_); go_simp; refine hK _ _ ?_ ?_
                     · (trivial)
                     clear hK K; try simp only [Act.put, List.setIfInBounds_toArray, List.set_cons_zero, List.set_cons_succ])
                  | (refine wpT_last (by rfl) (fun K hK => ?_); go_simp; refine hK _ _ ?_; clear hK K)
                  | (refine wpT_nil ?_))
                go_wp2_with fail
                go_roundw
                case rel => exact ⟨i + 1, by omega, by go_num, by rw [e.out]; rfl, KZ2.out⟩
                case measure => simp [intOf]; omega
            · obtain rfl : i = k := by omega
              have hil1 : ¬ ((i : Int) < (i : Int)) := by omega
              have kd := (KZ.out.cell (p := ⟨gb, off + i * 2, none⟩) hgl (fun h => h)).trans KD.out
              have SZ := hid (S4.out.keep KZ.out (fun _ _ h => h))
              have sb := shK_bd s d s.length
              have SD : Hid (shareOf s d = shK s d s.length) := hid rfl
              obtain ⟨Y, hY⟩ : ∃ Y, shK s d s.length = Y := ⟨_, rfl⟩
              try dsimp only at US
              rw [hY] at sb US SD
              obtain ⟨b, hb⟩ : ∃ b, seen s i d = b := ⟨_, rfl⟩
              rw [hb] at US ⊢
              clear hb hY
              cases b
              · have e := hid (US.out.trans (by simp) : U s (i + 1) s.length = X + Y)
                clear US
                go_wp2_with fail
                refine (fshare_any d SZ.out).mono ?_
                rintro _ w6 ⟨rfl, k6⟩
                have K6 := hid (KZ.out.trans k6)
                rw [SD.out]
                clear k6
                go_wp2_with fail
                go_roundw
                case rel => exact ⟨i + 1, by omega, by go_num, by rw [e.out], K6.out⟩
                case measure => simp [intOf]; omega
              · have e := hid (US.out.trans (by simp) : U s (i + 1) s.length = X)
                clear US
                go_wp2_with fail
                go_roundw
                case rel => exact ⟨i + 1, by omega, by go_num, by rw [e.out], KZ.out⟩
                case measure => simp [intOf]; omega
        · obtain rfl : k = s.length := by omega
          have hlt1 : ¬ ((s.length : Int) < (s.length : Int)) := by omega
          rw [UC.out, HC.out]
          clear hlt ub
          go_wp2_with fail
          refine (fawake_any wr).mono ?_
          rintro _ w6 ⟨rfl, k6⟩
          have K6 := hid ((K4.out.trans KK.out).trans k6)
          clear k6
          go_wp2
          go_ret
          exact ⟨rfl, K6.out.below (fun _ h => h.elim) (Nat.le_refl _)⟩
  all_goals
    clear SP GC WG NO GN GE SB
    go_wp2_with fail
    refine (fawake_any w2).mono ?_
    rintro _ w3 ⟨rfl, k3⟩
    have K3 := hid (K2.out.trans k3)
    clear k3
    go_wp2
    go_ret
    exact ⟨rfl, K3.out.below (fun _ h => h.elim) (Nat.le_refl _)⟩
end Go.Proofs.Ythnocalnlonniaa
