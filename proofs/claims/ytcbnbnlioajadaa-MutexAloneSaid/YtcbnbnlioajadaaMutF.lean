/- The walk of MutexAlone. -/
import Derived.Test.YtcbnbnlioajadaaMutE
import Derived.Test.YtcbnbnlioajadaaOwt
namespace Go.Proofs.Ytcbnbnlioajadaa
open Go Go.RowKit

/-- The place of the last one, where no two are one. -/
theorem idx_take {l : List Int} (hn : l.Nodup) (t : Int) (k : Nat) (hk : k < l.length) : idx (l.take (k + 1)) t = if nth l k = t then (k : Int) else idx (l.take k) t := by
  have hs : l.take (k + 1) = l.take k ++ [nth l k] := by
    rw [List.take_succ_eq_append_getElem hk, nth_get l k hk]
  have hnt : (l.take (k + 1)).Nodup := hn.sublist (List.take_sublist _ _)
  rw [hs] at hnt ⊢
  rw [List.nodup_append] at hnt
  by_cases e : nth l k = t
  · rw [if_pos e]
    have hno : t ∉ l.take k := fun hm => hnt.2.2 t hm (nth l k) (by simp) e.symm
    rw [idx_in (by simp [e])]
    rw [List.idxOf_append, if_neg hno, e]
    simp; omega
  · rw [if_neg e]
    by_cases hm : t ∈ l.take k
    · rw [idx_in hm, idx_in (List.mem_append_left _ hm), List.idxOf_append, if_pos hm]
    · rw [idx_out hm, idx_out (by simp [hm]; exact fun h => e h.symm)]

theorem idx_cases (l : List Int) (t : Int) : (idx l t = -1 ∧ t ∉ l) ∨ (idx l t = 0 ∧ ∃ m, l = t :: m) ∨ (1 ≤ idx l t ∧ t ∈ l ∧ l.headD 0 ≠ t ∧ l ≠ []) := by
  by_cases hm : t ∈ l
  · rw [idx_in hm]
    cases l with
    | nil => cases hm
    | cons x m =>
      by_cases e : x = t
      · subst e; exact .inr (.inl ⟨by simp, m, rfl⟩)
      · refine .inr (.inr ⟨?_, hm, e, by simp⟩)
        rw [List.idxOf_cons, (by simp [e] : (x == t) = false)]
        simp only [cond_false]; omega
  · exact .inl ⟨idx_out hm, hm⟩

theorem u8_bd (n : Int) (h : (Lit.int .u8 n).wf = true) : 0 ≤ n ∧ n ≤ 255 := by
  simp only [Lit.wf, Bool.and_eq_true, decide_eq_true_eq] at h
  exact ⟨Int.le_trans (by decide) h.1, Int.le_trans h.2 (by decide)⟩

theorem rowOf_nth {d : Int} {l : List Int} (h : rowOf d l ≠ []) : nth (rowOf d l) 0 = d := by
  unfold rowOf at h ⊢
  split
  · rename_i e; rw [if_pos e] at h; exact absurd rfl h
  · rfl

theorem row_cons {d t : Int} {l m : List Int} (hr : rowOf d l = t :: m) : d = t ∧ l = m := by
  unfold rowOf at hr
  split at hr
  · cases hr
  · cases hr; exact ⟨rfl, rfl⟩

theorem arg_u8s {w : World} {v : Value} {n : Nat} {f : Nat → Nat → Int} (h : ArgRows w v [.u8] n f) (hn : 0 < n) : ∃ g off c, v = .slice (some ⟨g, off, none⟩) n c ∧ g < w.heap.size ∧ n ≤ maxLen ∧
    ∀ k, k < n → w.cell? ⟨g, off + k, none⟩ = some (.int .u8 (f k 0)) ∧ (Lit.int .u8 (f k 0)).wf = true := by
  obtain ⟨hm, ⟨h0, _⟩ | ⟨g, off, c, hv, hg, hc⟩⟩ := h
  · omega
  · refine ⟨g, off, c, hv, hg, hm, fun k hk => ⟨?_, ?_⟩⟩
    · simpa using (hc k hk 0 .u8 rfl).1
    · exact (hc k hk 0 .u8 rfl).2

set_option maxRecDepth 10000 in
set_option maxHeartbeats 8000000 in
theorem walk_MutexAlone (w : World) (v1 : Value) (n1 : Nat) (f1 : Nat → Nat → Int) (w1 : ArgRows w v1 [.u8] n1 f1) :
    Calls Try.prog 8 #[v1] w fun en w' => en = .returned (.bool true) ∧ Below w.heap.size w w' := by
  obtain ⟨a1, c1, hv1⟩ := w1.form
  have A1 := hid w1
  have V1 := hid hv1
  rw [hv1]
  clear w1 hv1
  go_enter Try.func8, Try.ntmps8
  go_wp2_with fail
  refine (mnew_any w).mono ?_
  rintro e W1 ⟨rfl, G1, N1⟩
  have hsz : w.heap.size < W1.heap.size := N1.1.2.1 _ N1.1.1
  have N2 := N1.keep ((Keep.refl (fun _ => False) W1).alloc (.cells #[] 3)) (fun _ h => h.elim)
  have R2 := RowT.made W1
  have hd2 : ∀ k, (Value.slice (some ⟨W1.heap.size, 0, none⟩) 0 0).ownBlock = some k → w.heap.size ≤ k ∧ ¬ G1 k := fun k hk => by
    have := Option.some.inj hk
    dsimp only at this
    exact ⟨by omega, fun h => by have := N1.1.2.1 k h; omega⟩
  have N2 := hid N2
  have R2 := hid R2
  have D2 := hid hd2
  obtain ⟨b, hb⟩ : ∃ x, w.heap.size = x := ⟨_, rfl⟩
  rw [hb] at N2 ⊢
  clear hd2 N1 hsz
  go_wp2_with fail
  go_loopw [4, 5] (fun r i wr => ∃ (k : Nat) (d : Int) (l : List Int) (a : Option Addr) (c : Nat) (G1 : Nat → Prop), k ≤ n1 ∧ k ≤ 60 ∧ i = .int .i64 k ∧ l.length ≤ k ∧ Sane d l ∧ ONew 69 w wr G1 b (mpre d) l ∧ r = .slice a (rowOf d l).length c ∧ RowT wr (.slice a (rowOf d l).length c) (rowOf d l) ∧ ∀ k, (Value.slice a (rowOf d l).length c).ownBlock = some k → w.heap.size ≤ k ∧ ¬ G1 k) (fun _ i _ => 60 - (intOf i).toNat)
  case atStart => exact ⟨0, 0, [], _, _, G1, Nat.zero_le _, by omega, rfl, Nat.le_refl _, ⟨fun _ => rfl, by rw [rowOf_zero]; exact List.nodup_nil, by decide, by simp⟩, N2.out, rfl, R2.out, D2.out⟩
  case round =>
    obtain ⟨k, d, l, ar, cr, G1, hk, hk60, rfl, hl, hS, hN, rfl, hR, hD⟩ := hrel
    have S := hid hS
    have N := hid hN
    have R := hid hR
    have D := hid hD
    have RL := rowOf_len d l
    clear N2 R2 D2 hN hR hD hS
    obtain ⟨row, hrow⟩ : ∃ x, rowOf d l = x := ⟨_, rfl⟩
    have HROW := hid hrow
    rw [hrow] at R D RL ⊢
    clear hrow
    by_cases hlt : k < n1 ∧ k < 60
    · obtain ⟨g, off, cc, hv, hg, hmx, hc⟩ := arg_u8s A1.out (by omega)
      have hav : a1 = some ⟨g, off, none⟩ ∧ c1 = cc := by rw [V1.out] at hv; cases hv; exact ⟨rfl, rfl⟩
      obtain ⟨rfl, rfl⟩ := hav
      obtain ⟨k1, u1⟩ := hc k hlt.1
      have k1 := (N.out.2.2.cell (p := ⟨g, off + k, none⟩) hg (fun h => h)).trans k1
      have hlt1 : (k : Int) < (n1 : Int) := by omega
      have hlt2 : (k : Int) < 60 := by omega
      obtain ⟨q, hq, hq8⟩ := u8_mod (f1 k 0) 8 u1 (by decide)
      have hq0 : 0 ≤ f1 k 0 := (u8_bd _ u1).1
      have hq1 : f1 k 0 ≤ 255 := (u8_bd _ u1).2
      have hqm : f1 k 0 % 8 = (q : Int) := by rw [← hq, Int.tmod_eq_emod_of_nonneg hq0]
      clear hc hv u1 hq
      generalize f1 k 0 = y at k1 hq0 hq1 hqm
      go_wp2_with fail
      obtain ⟨t, ht⟩ : ∃ t : Int, 1 + (q : Int) = t := ⟨_, rfl⟩
      rw [ht]
      have ht1 : 1 ≤ t := by omega
      have ht8 : t ≤ 8 := by omega
      have ND : Hid row.Nodup := hid (by have := S.out.once; rwa [HROW.out] at this)
      clear k1 ht hqm hq0 hq1 hq8
      go_loop [7, 8] (fun at_ i => ∃ j : Nat, j ≤ row.length ∧ i = .int .i64 j ∧ at_ = .int .i64 (idx (row.take j) t)) (fun _ i => row.length - (intOf i).toNat)
      case atStart => exact ⟨0, Nat.zero_le _, rfl, by rw [List.take_zero]; rfl⟩
      case round =>
        obtain ⟨j, hj, rfl, rfl⟩ := hrel
        by_cases hjl : j < row.length
        · obtain ⟨gr, or, rfl, hgr, hcell⟩ := R.out.cell (by omega)
          have k2 := hcell j hjl
          have hjl1 : (j : Int) < (row.length : Int) := by omega
          have IT := hid (idx_take ND.out t j hjl)
          obtain ⟨old, hold⟩ : ∃ x, idx (row.take j) t = x := ⟨_, rfl⟩
          rw [hold] at IT ⊢
          clear hcell hold
          obtain ⟨x, hx⟩ : ∃ x, nth row j = x := ⟨_, rfl⟩
          rw [hx] at IT k2
          clear hx
          by_cases hxt : x = t
          · have e := IT.out
            rw [if_pos hxt] at e
            have IT := hid e
            have hb : (x == t) = true := by simp [hxt]
            clear e hxt
            go_wp2
            go_round
            case rel => exact ⟨j + 1, by omega, by go_num, by rw [IT.out]⟩
            case measure => simp [intOf]; omega
          · have e := IT.out
            rw [if_neg hxt] at e
            have IT := hid e
            have hb : (x == t) = false := by simp [hxt]
            clear e hxt
            go_wp2
            go_round
            case rel => exact ⟨j + 1, by omega, by go_num, by rw [IT.out]⟩
            case measure => simp [intOf]; omega
        · have hjl1 : ¬ (j : Int) < (row.length : Int) := by omega
          rw [List.take_of_length_le (by omega)]
          rcases idx_cases row t with ⟨e, hno⟩ | ⟨e, m, hm⟩ | ⟨e, hin, hhd, hne⟩
          · rw [e]
            have HNO := hid hno
            obtain ⟨e0, d0, l0, hb0⟩ : ∃ e0 d0 l0, mlk d l t = (e0, d0, l0) := ⟨_, _, _, rfl⟩
            obtain ⟨hq0, hs0, hl0⟩ := lock_row t S.out hb0
            have B0 := hid hb0
            have SS := hid hs0
            rw [HROW.out] at hq0
            have HQ0 := hid hq0
            clear e hno hb0 hq0 hs0
            rcases (by by_cases h0 : row = []
                       · exact .inl ⟨h0, by have := HQ0.out; rw [h0, rwt_got ht1] at this; simpa using this⟩
                       · exact .inr ⟨h0, by have := HQ0.out; rw [rwt_yes ht1 HNO.out (List.length_pos_iff.2 h0)] at this; simpa using this⟩ : (row = [] ∧ 0 = e0 ∧ [t] = rowOf d0 l0) ∨ (row ≠ [] ∧ 14 = e0 ∧ row ++ [t] = rowOf d0 l0)) with ⟨h0, rfl, h2⟩ | ⟨h0, rfl, h2⟩
            all_goals
              have HR : Hid (rowOf d0 l0 = row ++ [t]) := hid (by first | exact h2.symm | (rw [h0]; exact h2.symm))
              have hlen : ((row.length : Int) == 0) = true ∨ ((row.length : Int) == 0) = false := by cases ((row.length : Int) == 0) <;> simp
              have H0 := hid h0
              clear h0 h2 hlen
              first
                | (have hx : ((row.length : Int) == 0) = true := by have := H0.out; simp [this]; done)
                | (have hx : ((row.length : Int) == 0) = false := by have := List.length_pos_iff.2 H0.out; simp only [beq_eq_false_iff_ne, ne_eq]; omega)
              go_wp2_with fail
              refine (mlock_any t N.out (by omega) B0.out).mono ?_
              rintro _ W3 ⟨rfl, G3, N3, J3, K3⟩
              have R3 := R.out.keep K3 (fun x hx => (D.out x hx).2)
              have k4 : Keep (fun _ => False) W3 (W3.alloc (.cells #[.int .i64 t] 3)) := (Keep.refl _ _).alloc _
              have R4 := R3.keep k4 (fun _ _ h => h)
              have N4 := N3.keep k4 (fun _ h => h.elim)
              have x4 : (W3.alloc (.cells #[.int .i64 t] 3)).cell? ⟨W3.heap.size, 0, none⟩ = some (.int .i64 t) := by rw [World.cell?_alloc_new]; rfl
              have D4 : Hid (∀ x, (Value.slice ar row.length cr).ownBlock = some x → w.heap.size ≤ x ∧ ¬ G3 x) := hid fun x hx => ⟨(D.out x hx).1, fun h => (J3 x h).elim (D.out x hx).2 (fun h' => by have := R.out.lt hx; omega)⟩
              have N4 := hid N4
              have R4 := hid R4
              clear N3 R3 J3 K3 k4
              go_wp2_with (at_builtin; refine wpList_plain rfl (fun K hK => wp_append_tail _ (.tmp 98) (.tmp 100) rfl _ row rfl R4.out W3.heap.size 1 t rfl x4 (by omega) ?_))
              intro v5 W5 r5 f5 k5
              have s5 : Keep (fun _ => False) w W5 := N4.out.2.2.then k5 (fun x hx => .inr (D4.out x hx).1)
              have N5 := hid (N4.out.keep k5 (fun x hx => D4.out x hx))
              obtain ⟨a5, c5, hv5, -, -⟩ := r5.form
              rw [hv5] at r5 f5
              have RR := hid r5
              have NN := N5
              have DJ : Hid (∀ x, (Value.slice a5 (row ++ [t]).length c5).ownBlock = some x → w.heap.size ≤ x ∧ ¬ G3 x) := hid fun x hx => (f5 x hx).elim (D4.out x) (fun h => have h' : (W3.alloc (.cells #[.int .i64 t] 3)).heap.size ≤ x := (by rw [World.size_alloc]; exact h); ⟨Nat.le_trans N4.out.2.2.size h', fun hg => Nat.lt_irrefl _ (Nat.lt_of_lt_of_le (N4.out.1.2.1 x hg) h')⟩)
              obtain ⟨m5, hm5⟩ : ∃ m, (row ++ [t]).length = m := ⟨_, rfl⟩
              rw [hm5] at hv5
              subst hv5
              refine hK _ _ ?_
              have HM := hid hm5
              clear hK K f5 k5 r5 s5 x4 hm5
              have hp : 0 < (row ++ [t]).length := (by simp)
              obtain ⟨gr2, or2, hga, hgr2, hcell2⟩ := RR.out.cell hp
              have q0 : W5.cell? ⟨gr2, or2, none⟩ = some (.int .i64 d0) := by
                have := hcell2 0 hp
                rw [show nth (row ++ [t]) 0 = d0 by rw [← HR.out]; exact rowOf_nth (by rw [HR.out]; simp)] at this
                exact this
              have HGA := hid hga
              have hpos : 0 < m5 := by have := HM.out; omega
              have hpos2 : ((m5 : Int) == 0) = false := by have := HM.out; simp only [beq_eq_false_iff_ne, ne_eq]; omega
              clear hcell2
              subst hga
              go_wp2_with fail
              refine wp_region_text [0,0,0,0,0,2,0,0,0,0,0,0,0,0,0,0,0,2,0,0,0] (fun W => W.cell? ⟨gr2, or2, none⟩ = some (.int .i64 (d0))) (by kernel_rfl) (by kernel_rfl) q0 ?_
              repeat (first
                | (refine' wpT_calm (v := _) (by rfl) (fun W hW => ?_) ?_; rotate_left
                   · ((try dsimp only at hW); go_simp; first | done | rfl)
                   simp only [Act.put, List.setIfInBounds_toArray, List.set_cons_zero, List.set_cons_succ])
                | (refine' wpT_reads (v := _) (by rfl) ?_ ?_; rotate_left
                   · (go_simp; first | done | rfl)
                   simp only [Act.put, List.setIfInBounds_toArray, List.set_cons_zero, List.set_cons_succ])
                | (refine wpT_skip (by rfl) rfl ?_; simp only [Act.put, List.setIfInBounds_toArray, List.set_cons_zero, List.set_cons_succ])
                | (refine wpT_does (by rfl) (fun K hK => ?_); go_simp; refine hK _ _ ?_ ?_
                   · (trivial)
                   clear hK K; try simp only [Act.put, List.setIfInBounds_toArray, List.set_cons_zero, List.set_cons_succ])
                | (refine wpT_last (by rfl) (fun K hK => ?_); go_simp; refine hK _ _ ?_; clear hK K)
                | (refine wpT_nil ?_))
              refine wpT_does (by rfl) (fun K hK => ?_)
              go_simp
              have ND2 := hid (NN.out.keep (F := fun _ => False) ((Keep.refl _ _).drew) (fun _ h => h.elim))
              refine (mholder_any ND2.out).mono ?_
              rintro _ _ ⟨rfl, rfl⟩
              refine hK _ _ q0 ?_
              clear hK K
              try simp only [Act.put, List.setIfInBounds_toArray, List.set_cons_zero, List.set_cons_succ]
              repeat (first
                | (refine' wpT_calm (v := _) (by rfl) (fun W hW => ?_) ?_; rotate_left
                   · ((try dsimp only at hW); go_simp; first | done | rfl)
                   simp only [Act.put, List.setIfInBounds_toArray, List.set_cons_zero, List.set_cons_succ])
                | (refine' wpT_reads (v := _) (by rfl) ?_ ?_; rotate_left
                   · (go_simp; first | done | rfl)
                   simp only [Act.put, List.setIfInBounds_toArray, List.set_cons_zero, List.set_cons_succ])
                | (refine wpT_skip (by rfl) rfl ?_; simp only [Act.put, List.setIfInBounds_toArray, List.set_cons_zero, List.set_cons_succ])
                | (refine wpT_does (by rfl) (fun K hK => ?_); go_simp; refine hK _ _ ?_ ?_
                   · (trivial)
                   clear hK K; try simp only [Act.put, List.setIfInBounds_toArray, List.set_cons_zero, List.set_cons_succ])
                | (refine wpT_last (by rfl) (fun K hK => ?_); go_simp; refine hK _ _ ?_; clear hK K)
                | (refine wpT_nil ?_))
              go_wp2_with fail
              obtain rfl := HM.out
              go_roundw
              case rel => exact ⟨k + 1, d0, l0, _, _, G3, by omega, by omega, by go_num, (by have := hl0; omega), SS.out, ND2.out, (by rw [HR.out]; try rfl), by rw [HR.out]; exact RR.out.keep (F := fun _ => False) ((Keep.refl _ _).drew) (fun _ _ h => h), by rw [HR.out]; exact DJ.out⟩
              case measure => simp [intOf]; omega
          · rw [e]
            obtain ⟨hd1, hl1⟩ := row_cons (HROW.out.trans hm)
            subst hm
            clear e
            subst hd1 hl1
            obtain ⟨gr1, or1, rfl, hgr1, -⟩ := R.out.cell (by simp)
            obtain ⟨ax, cx, hcr1, hcr2, hcr3⟩ := R.out.form
            simp only [Value.slice.injEq] at hcr1
            obtain ⟨-, -, rfl⟩ := hcr1
            have TL := hid (RowT.tail R.out)
            have hcr3' : cr ≤ 9223372036854775807 := by unfold maxLen at hcr3; omega
            have hcr2' : l.length + 1 ≤ cr := by simpa using hcr2
            have hcr4 : 1 ≤ cr := by omega
            have hl5 : (1 : Int) ≤ (l.length : Int) + 1 := by omega
            have hl6 : (l.length : Int) + 1 ≤ (cr : Int) := by omega
            obtain ⟨hn1, hn2⟩ := S.out.next (by omega)
            have HN := hid hn1
            have SS0 := hid hn2
            clear hcr2 hcr3 hn1 hn2
            cases l with
            | nil =>
              rcases Classical.em (cr = 1) with rfl | hc1
              all_goals
                have TL2 := TL.out _ rfl
                first | rw [if_pos rfl] at TL2 | rw [if_neg hc1] at TL2
                have TL2 := hid TL2
                clear TL
                go_wp2_with fail
                refine (munlock_nil N.out ht1).mono ?_
                rintro _ W3 ⟨rfl, G3, N3, J3, K3⟩
                have RR := hid (TL2.out.keep K3 (fun x hx => (D.out x hx).2))
                have DJ : Hid (∀ x, (Value.slice (some ⟨gr1, or1, none⟩) 0 0).ownBlock = some x → w.heap.size ≤ x ∧ ¬ G3 x) := hid fun x hx => ⟨(D.out x hx).1, fun h => (J3 x h).elim (D.out x hx).2 (fun h' => by have := R.out.lt hx; omega)⟩
                have NN := hid N3
                have SS : Hid (Sane 0 []) := hid ⟨fun _ => rfl, by rw [rowOf_zero]; exact List.nodup_nil, by decide, by simp⟩
                clear N3 J3 K3
                go_wp2_with fail
                refine wp_region_text [0,0,0,0,0,2,0,0,0,0,0,0,0,0,0,0,0,2,0,0,0] (fun _ => True) (by kernel_rfl) (by kernel_rfl) trivial ?_
                repeat (first
                  | (refine' wpT_calm (v := _) (by rfl) (fun W hW => ?_) ?_; rotate_left
                     · ((try dsimp only at hW); go_simp; first | done | rfl)
                     simp only [Act.put, List.setIfInBounds_toArray, List.set_cons_zero, List.set_cons_succ])
                  | (refine' wpT_reads (v := _) (by rfl) ?_ ?_; rotate_left
                     · (go_simp; first | done | rfl)
                     simp only [Act.put, List.setIfInBounds_toArray, List.set_cons_zero, List.set_cons_succ])
                  | (refine wpT_skip (by rfl) rfl ?_; simp only [Act.put, List.setIfInBounds_toArray, List.set_cons_zero, List.set_cons_succ])
                  | (refine wpT_does (by rfl) (fun K hK => ?_); go_simp; refine hK _ _ ?_ ?_
                     · (trivial)
                     clear hK K; try simp only [Act.put, List.setIfInBounds_toArray, List.set_cons_zero, List.set_cons_succ])
                  | (refine wpT_last (by rfl) (fun K hK => ?_); go_simp; refine hK _ _ ?_; clear hK K)
                  | (refine wpT_nil ?_))
                refine wpT_does (by rfl) (fun K hK => ?_)
                go_simp
                have ND2 := hid (NN.out.keep (F := fun _ => False) ((Keep.refl _ _).drew) (fun _ h => h.elim))
                refine (mholder_any ND2.out).mono ?_
                rintro _ _ ⟨rfl, rfl⟩
                refine hK _ _ trivial ?_
                clear hK K
                try simp only [Act.put, List.setIfInBounds_toArray, List.set_cons_zero, List.set_cons_succ]
                repeat (first
                  | (refine' wpT_calm (v := _) (by rfl) (fun W hW => ?_) ?_; rotate_left
                     · ((try dsimp only at hW); go_simp; first | done | rfl)
                     simp only [Act.put, List.setIfInBounds_toArray, List.set_cons_zero, List.set_cons_succ])
                  | (refine' wpT_reads (v := _) (by rfl) ?_ ?_; rotate_left
                     · (go_simp; first | done | rfl)
                     simp only [Act.put, List.setIfInBounds_toArray, List.set_cons_zero, List.set_cons_succ])
                  | (refine wpT_skip (by rfl) rfl ?_; simp only [Act.put, List.setIfInBounds_toArray, List.set_cons_zero, List.set_cons_succ])
                  | (refine wpT_does (by rfl) (fun K hK => ?_); go_simp; refine hK _ _ ?_ ?_
                     · (trivial)
                     clear hK K; try simp only [Act.put, List.setIfInBounds_toArray, List.set_cons_zero, List.set_cons_succ])
                  | (refine wpT_last (by rfl) (fun K hK => ?_); go_simp; refine hK _ _ ?_; clear hK K)
                  | (refine wpT_nil ?_))
                go_wp2_with fail
                go_roundw
                case rel => exact ⟨k + 1, 0, [], _, _, G3, by omega, by omega, by go_num, by simp, SS.out, ND2.out, rfl, RR.out.keep (F := fun _ => False) ((Keep.refl _ _).drew) (fun _ _ h => h), DJ.out⟩
                case measure => simp [intOf]; omega
            | cons x l =>
              have hc1 : ¬ cr = 1 := by simp at hcr2'; omega
              have TL2 := TL.out _ rfl
              rw [if_neg hc1] at TL2
              have TL2 := hid TL2
              clear TL
              go_wp2_with fail
              refine (munlock_cons x N.out ht1 (by simp at hl; omega)).mono ?_
              rintro _ W3 ⟨rfl, G3, N3, J3, K3⟩
              have RR := hid (TL2.out.keep K3 (fun x hx => (D.out x hx).2))
              have DJ : Hid (∀ y, (Value.slice (some ⟨gr1, or1, none⟩) 0 0).ownBlock = some y → w.heap.size ≤ y ∧ ¬ G3 y) := hid fun x hx => ⟨(D.out x hx).1, fun h => (J3 x h).elim (D.out x hx).2 (fun h' => by have := R.out.lt hx; omega)⟩
              have NN := hid N3
              have SS : Hid (Sane x l) := SS0
              have HR : Hid (rowOf x l = x :: l) := HN
              have HM : Hid ((x :: l).length = l.length + 1) := hid rfl
              have hl7 : l.length ≤ k := by simp at hl; omega
              clear N3 J3 K3 hl
              have hp : 0 < (x :: l).length := (by simp)
              obtain ⟨gr2, or2, hga, hgr2, hcell2⟩ := RR.out.cell hp
              have q0 : W3.cell? ⟨gr2, or2, none⟩ = some (.int .i64 x) := by
                have := hcell2 0 hp
                rw [show nth (x :: l) 0 = x by rw [← HR.out]; exact rowOf_nth (by rw [HR.out]; simp)] at this
                exact this
              have HGA := hid hga
              have hpos : 0 < (l.length + 1) := by have := HM.out; omega
              have hpos2 : (((l.length + 1) : Int) == 0) = false := by have := HM.out; simp only [beq_eq_false_iff_ne, ne_eq]; omega
              clear hcell2
              simp only [Option.some.injEq, Addr.mk.injEq] at hga; obtain ⟨rfl, rfl, -⟩ := hga
              go_wp2_with fail
              refine wp_region_text [0,0,0,0,0,2,0,0,0,0,0,0,0,0,0,0,0,2,0,0,0] (fun W => W.cell? ⟨gr1, or1 + 1, none⟩ = some (.int .i64 (x))) (by kernel_rfl) (by kernel_rfl) q0 ?_
              repeat (first
                | (refine' wpT_calm (v := _) (by rfl) (fun W hW => ?_) ?_; rotate_left
                   · ((try dsimp only at hW); go_simp; first | done | rfl)
                   simp only [Act.put, List.setIfInBounds_toArray, List.set_cons_zero, List.set_cons_succ])
                | (refine' wpT_reads (v := _) (by rfl) ?_ ?_; rotate_left
                   · (go_simp; first | done | rfl)
                   simp only [Act.put, List.setIfInBounds_toArray, List.set_cons_zero, List.set_cons_succ])
                | (refine wpT_skip (by rfl) rfl ?_; simp only [Act.put, List.setIfInBounds_toArray, List.set_cons_zero, List.set_cons_succ])
                | (refine wpT_does (by rfl) (fun K hK => ?_); go_simp; refine hK _ _ ?_ ?_
                   · (trivial)
                   clear hK K; try simp only [Act.put, List.setIfInBounds_toArray, List.set_cons_zero, List.set_cons_succ])
                | (refine wpT_last (by rfl) (fun K hK => ?_); go_simp; refine hK _ _ ?_; clear hK K)
                | (refine wpT_nil ?_))
              refine wpT_does (by rfl) (fun K hK => ?_)
              go_simp
              have ND2 := hid (NN.out.keep (F := fun _ => False) ((Keep.refl _ _).drew) (fun _ h => h.elim))
              refine (mholder_any ND2.out).mono ?_
              rintro _ _ ⟨rfl, rfl⟩
              refine hK _ _ q0 ?_
              clear hK K
              try simp only [Act.put, List.setIfInBounds_toArray, List.set_cons_zero, List.set_cons_succ]
              repeat (first
                | (refine' wpT_calm (v := _) (by rfl) (fun W hW => ?_) ?_; rotate_left
                   · ((try dsimp only at hW); go_simp; first | done | rfl)
                   simp only [Act.put, List.setIfInBounds_toArray, List.set_cons_zero, List.set_cons_succ])
                | (refine' wpT_reads (v := _) (by rfl) ?_ ?_; rotate_left
                   · (go_simp; first | done | rfl)
                   simp only [Act.put, List.setIfInBounds_toArray, List.set_cons_zero, List.set_cons_succ])
                | (refine wpT_skip (by rfl) rfl ?_; simp only [Act.put, List.setIfInBounds_toArray, List.set_cons_zero, List.set_cons_succ])
                | (refine wpT_does (by rfl) (fun K hK => ?_); go_simp; refine hK _ _ ?_ ?_
                   · (trivial)
                   clear hK K; try simp only [Act.put, List.setIfInBounds_toArray, List.set_cons_zero, List.set_cons_succ])
                | (refine wpT_last (by rfl) (fun K hK => ?_); go_simp; refine hK _ _ ?_; clear hK K)
                | (refine wpT_nil ?_))
              go_wp2_with fail
              skip
              go_roundw
              case rel => exact ⟨k + 1, x, l, _, _, G3, by omega, by omega, by go_num, (by omega), SS.out, ND2.out, (by rw [HR.out]; try rfl), by rw [HR.out]; exact RR.out.keep (F := fun _ => False) ((Keep.refl _ _).drew) (fun _ _ h => h), by rw [HR.out]; exact DJ.out⟩
              case measure => simp [intOf]; omega
          · have hdt : d ≠ t := fun h => hhd (by rw [← HROW.out, rowOf_head]; exact h)
            have hin2 : d = t ∨ t ∈ l := (mem_row S.out ht1).1 (by rw [HROW.out]; exact hin)
            have M11 := hid (mwr_in ht1 hin2)
            have HDT := hid hdt
            have HNE := hid hne
            clear hin hhd hne hdt hin2
            generalize idx row t = at_ at e ⊢
            have e1 : (at_ == 0) = false := by simp only [beq_eq_false_iff_ne, ne_eq]; omega
            have e2 : ¬ at_ < 0 := by omega
            clear e
            go_wp2_with fail
            refine (munlock_no t N.out (.inr HDT.out)).mono ?_
            rintro _ _ ⟨rfl, rfl⟩
            rw [if_neg (by omega)]
            go_wp2_with fail
            refine (mlock_any t N.out (by omega) (mlk_not (mtr_wrong M11.out (by decide)) (by decide))).mono ?_
            rintro _ W3 ⟨rfl, G2, N2', J2, K2⟩
            have R2' := hid (R.out.keep K2 (fun x hx => (D.out x hx).2))
            have D2' : Hid (∀ x, (Value.slice ar row.length cr).ownBlock = some x → w.heap.size ≤ x ∧ ¬ G2 x) := hid fun x hx => ⟨(D.out x hx).1, fun h => (J2 x h).elim (D.out x hx).2 (fun h' => by have := R.out.lt hx; omega)⟩
            have N2' := hid N2'
            clear J2 K2
            go_wp2_with fail
            refine (mtry_any t N2'.out (mtr_wrong M11.out (by decide))).mono ?_
            rintro _ W4 ⟨rfl, G3, N3, J3, K3⟩
            have RR := hid (R2'.out.keep K3 (fun x hx => (D2'.out x hx).2))
            have DJ : Hid (∀ x, (Value.slice ar row.length cr).ownBlock = some x → w.heap.size ≤ x ∧ ¬ G3 x) := hid fun x hx => ⟨(D2'.out x hx).1, fun h => (J3 x h).elim (D2'.out x hx).2 (fun h' => by have := R2'.out.lt hx; omega)⟩
            have NN := hid N3
            have SS := S
            have HR := HROW
            have HM : Hid (row.length = row.length) := hid rfl
            clear N3 J3 K3 N2' R2' D2'

            have hp : 0 < (row).length := List.length_pos_iff.2 HNE.out
            obtain ⟨gr2, or2, hga, hgr2, hcell2⟩ := RR.out.cell hp
            have q0 : W4.cell? ⟨gr2, or2, none⟩ = some (.int .i64 d) := by
              have := hcell2 0 hp
              rw [show nth (row) 0 = d by rw [← HR.out]; exact rowOf_nth (by rw [HR.out]; exact HNE.out)] at this
              exact this
            have HGA := hid hga
            have hpos : 0 < row.length := by have := HM.out; omega
            have hpos2 : ((row.length : Int) == 0) = false := by have := HM.out; simp only [beq_eq_false_iff_ne, ne_eq]; omega
            clear hcell2
            subst hga
            go_wp2_with fail
            refine wp_region_text [0,0,0,0,0,2,0,0,0,0,0,0,0,0,0,0,0,2,0,0,0] (fun W => W.cell? ⟨gr2, or2, none⟩ = some (.int .i64 (d))) (by kernel_rfl) (by kernel_rfl) q0 ?_
            repeat (first
              | (refine' wpT_calm (v := _) (by rfl) (fun W hW => ?_) ?_; rotate_left
                 · ((try dsimp only at hW); go_simp; first | done | rfl)
                 simp only [Act.put, List.setIfInBounds_toArray, List.set_cons_zero, List.set_cons_succ])
              | (refine' wpT_reads (v := _) (by rfl) ?_ ?_; rotate_left
                 · (go_simp; first | done | rfl)
                 simp only [Act.put, List.setIfInBounds_toArray, List.set_cons_zero, List.set_cons_succ])
              | (refine wpT_skip (by rfl) rfl ?_; simp only [Act.put, List.setIfInBounds_toArray, List.set_cons_zero, List.set_cons_succ])
              | (refine wpT_does (by rfl) (fun K hK => ?_); go_simp; refine hK _ _ ?_ ?_
                 · (trivial)
                 clear hK K; try simp only [Act.put, List.setIfInBounds_toArray, List.set_cons_zero, List.set_cons_succ])
              | (refine wpT_last (by rfl) (fun K hK => ?_); go_simp; refine hK _ _ ?_; clear hK K)
              | (refine wpT_nil ?_))
            refine wpT_does (by rfl) (fun K hK => ?_)
            go_simp
            have ND2 := hid (NN.out.keep (F := fun _ => False) ((Keep.refl _ _).drew) (fun _ h => h.elim))
            refine (mholder_any ND2.out).mono ?_
            rintro _ _ ⟨rfl, rfl⟩
            refine hK _ _ q0 ?_
            clear hK K
            try simp only [Act.put, List.setIfInBounds_toArray, List.set_cons_zero, List.set_cons_succ]
            repeat (first
              | (refine' wpT_calm (v := _) (by rfl) (fun W hW => ?_) ?_; rotate_left
                 · ((try dsimp only at hW); go_simp; first | done | rfl)
                 simp only [Act.put, List.setIfInBounds_toArray, List.set_cons_zero, List.set_cons_succ])
              | (refine' wpT_reads (v := _) (by rfl) ?_ ?_; rotate_left
                 · (go_simp; first | done | rfl)
                 simp only [Act.put, List.setIfInBounds_toArray, List.set_cons_zero, List.set_cons_succ])
              | (refine wpT_skip (by rfl) rfl ?_; simp only [Act.put, List.setIfInBounds_toArray, List.set_cons_zero, List.set_cons_succ])
              | (refine wpT_does (by rfl) (fun K hK => ?_); go_simp; refine hK _ _ ?_ ?_
                 · (trivial)
                 clear hK K; try simp only [Act.put, List.setIfInBounds_toArray, List.set_cons_zero, List.set_cons_succ])
              | (refine wpT_last (by rfl) (fun K hK => ?_); go_simp; refine hK _ _ ?_; clear hK K)
              | (refine wpT_nil ?_))
            go_wp2_with fail
            skip
            go_roundw
            case rel => exact ⟨k + 1, d, l, _, _, G3, by omega, by omega, by go_num, (by omega), SS.out, ND2.out, (by rw [HR.out]; try rfl), by rw [HR.out]; exact RR.out.keep (F := fun _ => False) ((Keep.refl _ _).drew) (fun _ _ h => h), by rw [HR.out]; exact DJ.out⟩
            case measure => simp [intOf]; omega
    · have hge : ¬ ((k : Int) < (n1 : Int)) ∨ (k : Int) < (n1 : Int) ∧ ¬ ((k : Int) < 60) := by omega
      rcases hge with hge1 | ⟨hge1, hge2⟩
      all_goals
        go_wp2_with fail
        refine (mawake_any _).mono ?_
        rintro _ W4 ⟨rfl, K4⟩
        have N4 := hid (N.out.keep K4 (fun _ h => h.elim))
        clear K4
        go_wp2
        go_ret
        exact ⟨rfl, N4.out.2.2.below (fun _ h => h.elim) (Nat.le_refl _)⟩
end Go.Proofs.Ytcbnbnlioajadaa
