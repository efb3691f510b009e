/- The walk of BufferOnce: what was put is told once, in order. -/
import Derived.Test.YteobmdkghdjapaaBufJ
namespace Go.Proofs.Yteobmdkghdjapaa
open Go.RowKit
attribute [local go_sem 100000] guard31 neq31 eql31

/-- The buffer, and the list of what it took. -/
structure Took (w W : World) (b : Nat) (v : Value) (l : List (Int × Int)) : Prop where
  lo : w.heap.size ≤ b
  buf : IsBuf W b l 8
  want : Wakes W v l
  own : ∀ k, v.ownBlock = some k → w.heap.size ≤ k ∧ k ≠ b
  low : Below w.heap.size w W
  apart : ∀ i j, i < j → j < l.length → (at2 l i).1 ≠ (at2 l j).1

theorem at2_left {l : List (Int × Int)} {p : Int × Int} {i : Nat} (h : i < l.length) : at2 (l ++ [p]) i = at2 l i := by simp [at2, List.getD, List.getElem?_append_left h]
theorem at2_last {l : List (Int × Int)} {p : Int × Int} : at2 (l ++ [p]) l.length = p := by simp [at2, List.getD]
theorem at2_app {l m : List (Int × Int)} {i : Nat} (h : i < l.length) : at2 (l ++ m) i = at2 l i := by simp [at2, List.getD, List.getElem?_append_left h]
theorem at2_zero {l : List (Int × Int)} {n i : Nat} (h : l.length ≤ i) : at2 (l ++ zeros2 n) i = (0, 0) := by
  simp only [at2, List.getD, List.getElem?_append_right h, zeros2, List.getElem?_replicate]
  split <;> rfl

theorem apart_snoc {l : List (Int × Int)} {t e : Int} (h : ∀ i j, i < j → j < l.length → (at2 l i).1 ≠ (at2 l j).1) (hn : ∀ i, i < l.length → (at2 l i).1 ≠ t) :
    ∀ i j, i < j → j < (l ++ [(t, e)]).length → (at2 (l ++ [(t, e)]) i).1 ≠ (at2 (l ++ [(t, e)]) j).1 := by
  intro i j hij hj
  simp at hj
  by_cases hjl : j < l.length
  · rw [at2_left hjl, at2_left (by omega)]; exact h i j hij hjl
  · obtain rfl : j = l.length := by omega
    rw [at2_last, at2_left hij]; exact hn i hij

set_option maxHeartbeats 1000000 in
theorem walk_BufferOnce (w : World) (v1 : Value) (n1 : Nat) (f1 : Nat → Nat → Int) (w1 : ArgRows w v1 [.i64, .i64] n1 f1) :
    Calls Try.prog 5 #[v1] w fun en w' => en = .returned (.bool true) ∧ Below w.heap.size w w' := by
  obtain ⟨a1, c1, hv1⟩ := w1.form
  have A1 := hid w1
  have V1 := hid hv1
  rw [hv1]
  clear w1 hv1
  obtain ⟨i0, hi, hz0, hz1, hz2⟩ := info_parts Try.info31
  have hi := hid hi
  have hz0 := hid hz0
  have hz1 := hid hz1
  have hz2 := hid hz2
  have e8 : mostOf 8 = 8 := rfl
  go_enter Try.func5, Try.ntmps5
  go_wp2_with fail
  refine (new_any 8 _).mono ?_
  rintro _ W1 ⟨rfl, I1, K1⟩
  have hs1 : w.heap.size < W1.heap.size := I1.lt
  rw [e8] at I1
  have T1 : Took w (W1.alloc (.cells #[] 31)) w.heap.size (.slice (some ⟨W1.heap.size, 0, none⟩) 0 0) [] :=
    ⟨Nat.le_refl _, I1.keep ((Keep.refl (fun _ => False) _).alloc _) (fun h => h), made_row W1, fun k hk => by have := Option.some.inj hk; dsimp only at this; omega,
      (K1.alloc _).below (fun _ h => h.elim) (Nat.le_refl _), fun i j _ h => absurd h (Nat.not_lt_zero j)⟩
  obtain ⟨b, hb⟩ : ∃ x, w.heap.size = x := ⟨_, rfl⟩
  rw [hb] at T1 ⊢
  have T1 := hid T1
  clear I1 K1 hb hs1 e8
  go_wp2_with fail
  go_loopw [4, 5] (fun o i wr => ∃ (k : Nat) (v : Value) (l : List (Int × Int)), k ≤ n1 ∧ k ≤ 30 ∧ i = .int .i64 k ∧ o = v ∧ Took w wr b v l) (fun _ i _ => 30 - (intOf i).toNat)
  case atStart => exact ⟨0, _, [], Nat.zero_le _, by omega, rfl, rfl, T1.out⟩
  case round =>
    obtain ⟨k, v, l, hk, hk30, rfl, rfl, hT⟩ := hrel
    obtain ⟨a3, c3, rfl⟩ := owns_form hT.want
    clear T1
    by_cases hlt : k < n1 ∧ k < 30
    · obtain ⟨g, off, c, hv, hg, hc⟩ := arg_wakes A1.out (by omega)
      have hav : a1 = some ⟨g, off, none⟩ ∧ c1 = c := by rw [V1.out] at hv; cases hv; exact ⟨rfl, rfl⟩
      obtain ⟨rfl, rfl⟩ := hav
      have k1 := (hT.low.cell (p := ⟨g, off + k * 2, none⟩) hg).trans (hc k hlt.1).1
      have k2 := (hT.low.cell (p := ⟨g, off + k * 2 + 1, none⟩) hg).trans (hc k hlt.1).2
      have hlt1 : (k : Int) < (n1 : Int) := by omega
      have hlt2 : (k : Int) < 30 := by omega
      have hgb : g ≠ b := by have := hT.lo; omega
      have hgs : g < wr.heap.size := Nat.lt_of_lt_of_le hg hT.low.size
      have hl8 := hT.buf.le
      have T := hid hT
      clear hc hv hT
      go_wp2_with fail
      refine (put_any (f1 k 0) (f1 k 1) T.out.buf).mono ?_
      rintro _ W3 ⟨x, rfl, K3, hx⟩
      have B3 := T.out.low.trans (K3.below (B := w.heap.size) (fun j (e : j = b) => by rw [e]; exact T.out.lo) T.out.low.size)
      have w3 := owns_keep T.out.want K3 (fun k hk e => (T.out.own k hk).2 e)
      have k13 := (K3.cell (p := ⟨g, off + k * 2, none⟩) hgs hgb).trans k1
      have k23 := (K3.cell (p := ⟨g, off + k * 2 + 1, none⟩) hgs hgb).trans k2
      clear k1 k2
      rcases hx with ⟨rfl, _, hI⟩ | ⟨rfl, hq, hn, hI⟩
      · have T3 := hid (⟨T.out.lo, hI, w3, T.out.own, B3, T.out.apart⟩ : Took w W3 b _ l)
        clear T K3 B3 w3 hI k13 k23
        go_wp2
        go_roundw
        case rel => exact ⟨k + 1, _, l, by omega, by omega, by go_num, rfl, T3.out⟩
        case measure => simp [intOf]; omega
      · have B3 := hid B3
        have w3 := hid w3
        have hI := hid hI
        have hn := hid hn
        clear K3
        go_wp2_with (at_builtin; refine wpList_plain rfl (fun K hK => wp_append_src _ (.tmp 28) (.tmp 33) 22 rfl 0 31 i0 (.agg #[.int .i64 0, .int .i64 0]) 2 16 Try.underlying22 hi.out hz0.out hz1.out hz2.out rfl (by decide) _ l.length _ rfl (w3.out.alloc _) _ 1 _ rfl (one_src W3 (f1 k 0) (f1 k 1)) (by unfold maxLen; omega) (by omega) (Nat.zero_le _) ?_))
        intro v5 w5 o5 g5 f5
        refine hK _ _ ?_
        clear hK K
        have K5 : Keep (fun j => (Value.slice a3 l.length c3).ownBlock = some j) W3 w5 := ((Keep.refl _ _).alloc _).grown g5 (fun j h => .inl h)
        have T5 : Took w w5 b v5 (l ++ [(f1 k 0, f1 k 1)]) := by
          refine ⟨T.out.lo, hI.out.keep K5 (fun e => (T.out.own b e).2 rfl), ?_, fun j hj => ?_, B3.out.trans (K5.below (B := w.heap.size) (fun j e => (T.out.own j e).1) B3.out.size), apart_snoc T.out.apart hn.out⟩
          · unfold Wakes
            rw [flat2_append, List.length_append]
            exact o5
          · rcases f5 j hj with h | h
            · exact T.out.own j h
            · try simp at h
              have := B3.out.size
              have := hI.out.lt
              exact ⟨by omega, by omega⟩
        obtain ⟨a5, c5, rfl⟩ := owns_form o5
        have T5 := hid T5
        clear T B3 w3 hI hn K5 o5 g5 f5 k13 k23
        go_wp2
        go_roundw
        case rel => exact ⟨k + 1, _, _, by omega, by omega, by go_num, rfl, T5.out⟩
        case measure => simp [intOf]; omega
    · have T := hid hT
      have hge : ¬ ((k : Int) < (n1 : Int)) ∨ (k : Int) < (n1 : Int) ∧ ¬ ((k : Int) < 30) := by omega
      clear hT
      rcases hge with hge1 | ⟨hge1, hge2⟩
      all_goals
        go_wp2_with fail
        refine (deliver_any T.out.buf).mono ?_
        rintro _ W3 ⟨u, rfl, hu, hfu, hI3, K3⟩
        have hl8 := T.out.buf.le
        have B3 := hid (T.out.low.trans (K3.below (B := w.heap.size) (fun j (e : j = b) => by rw [e]; exact T.out.lo) T.out.low.size))
        have w3 := hid (owns_keep T.out.want K3 (fun k hk e => (T.out.own k hk).2 e))
        have hu8 : (l ++ zeros2 (8 - l.length)).length = 8 := by simp [zeros2]; omega
        obtain ⟨au, cu, rfl⟩ := owns_form hu
        rw [hu8]
        have ru := hid (Wakes.reads hu)
        have rw3 := hid (Wakes.reads w3.out)
        have I3 := hid hI3
        have hub := hid hu8
        have AP := hid T.out.apart
        have hl8' : (l.length : Int) ≤ 8 := by omega
        clear hu hfu hI3 K3 hu8 T w3
        go_wp2_with fail
        go_loopw [7] (fun i wr => ∃ k : Nat, k ≤ 8 ∧ i = .int .i64 k ∧ Keep (fun _ => False) W3 wr) (fun i _ => 8 - (intOf i).toNat)
        case atStart => exact ⟨0, by omega, rfl, Keep.refl _ _⟩
        case round =>
          obtain ⟨k2, hk2, rfl, hK⟩ := hrel
          by_cases hlt3 : k2 < 8
          · obtain ⟨gu, ou, cu', hu, hgu, _, hcu⟩ : ∃ g off cap, Value.slice au (l ++ zeros2 (8 - l.length)).length cu = .slice (some ⟨g, off, none⟩) (l ++ zeros2 (8 - l.length)).length cap ∧ g < W3.heap.size ∧ (l ++ zeros2 (8 - l.length)).length ≤ maxLen ∧
                ∀ i, i < (l ++ zeros2 (8 - l.length)).length → W3.cell? ⟨g, off + i * 2, none⟩ = some (.int .i64 (at2 (l ++ zeros2 (8 - l.length)) i).1) ∧ W3.cell? ⟨g, off + i * 2 + 1, none⟩ = some (.int .i64 (at2 (l ++ zeros2 (8 - l.length)) i).2) := by
              rcases ru.out with ⟨_, h⟩ | h
              · have := hub.out; rw [h] at this; simp at this
              · exact h
            have hau : au = some ⟨gu, ou, none⟩ := by cases hu; rfl
            clear hu
            subst hau
            have hk8 : k2 < (l ++ zeros2 (8 - l.length)).length := by rw [hub.out]; exact hlt3
            have q1 := (hK.cell (p := ⟨gu, ou + k2 * 2, none⟩) hgu (fun h => h)).trans (hcu k2 hk8).1
            have q2 := (hK.cell (p := ⟨gu, ou + k2 * 2 + 1, none⟩) hgu (fun h => h)).trans (hcu k2 hk8).2
            have hgu' : gu < wr.heap.size := Nat.lt_of_lt_of_le hgu hK.size
            have hlt4 : (k2 : Int) < 8 := by omega
            have K4 := hid hK
            clear hcu hK
            by_cases hkl : k2 < l.length
            · obtain ⟨gw, ow, cw', hw', hgw, _, hcw⟩ : ∃ g off cap, Value.slice a3 l.length c3 = .slice (some ⟨g, off, none⟩) l.length cap ∧ g < W3.heap.size ∧ l.length ≤ maxLen ∧
                  ∀ i, i < l.length → W3.cell? ⟨g, off + i * 2, none⟩ = some (.int .i64 (at2 l i).1) ∧ W3.cell? ⟨g, off + i * 2 + 1, none⟩ = some (.int .i64 (at2 l i).2) := by
                rcases rw3.out with ⟨_, h⟩ | h
                · rw [h] at hkl; simp at hkl
                · exact h
              have hav2 : a3 = some ⟨gw, ow, none⟩ := by cases hw'; rfl
              clear hw'
              subst hav2
              rw [at2_app hkl] at q1 q2
              have r1 := (K4.out.cell (p := ⟨gw, ow + k2 * 2, none⟩) hgw (fun h => h)).trans (hcw k2 hkl).1
              have r2 := (K4.out.cell (p := ⟨gw, ow + k2 * 2 + 1, none⟩) hgw (fun h => h)).trans (hcw k2 hkl).2
              have hgw' : gw < wr.heap.size := Nat.lt_of_lt_of_le hgw K4.out.size
              have hkl' : (k2 : Int) < (l.length : Int) := by omega
              clear hcw
              go_wp2_with fail
              refine wp_region_text [0,0,0,1,1,0] (fun _ => True) (by kernel_rfl) (by kernel_rfl) trivial ?_
              repeat (first
                | (refine' wpT_calm (v := _) (by rfl) (fun W hW => ?_) ?_; rotate_left
                   · ((try dsimp only at hW); go_simp; first | done | rfl)
                   simp only [Act.put, List.setIfInBounds_toArray, List.set_cons_zero, List.set_cons_succ])
                | (refine' wpT_reads (v := _) (by rfl) ?_ ?_; rotate_left
                   · (go_simp; first | done | rfl)
                   simp only [Act.put, List.setIfInBounds_toArray, List.set_cons_zero, List.set_cons_succ])
                | (refine wpT_skip (by rfl) rfl ?_; simp only [Act.put, List.setIfInBounds_toArray, List.set_cons_zero, List.set_cons_succ])
                | (refine wpT_does (by rfl) (fun K hK => ?_); go_simp; refine hK _ _ ?_ ?_
                   · (trivial)
                   clear hK K; try simp only [Act.put, List.setIfInBounds_toArray, List.set_cons_zero, List.set_cons_succ])
                | (refine wpT_last (by rfl) (fun K hK => ?_); go_simp; refine hK _ _ ?_; clear hK K)
                | (refine wpT_nil ?_))
              go_wp2_with fail
              go_loopw [9] (fun i wr2 => ∃ j : Nat, j ≤ k2 ∧ i = .int .i64 j ∧ Keep (fun _ => False) W3 wr2) (fun i _ => k2 - (intOf i).toNat)
              case atStart => exact ⟨0, by omega, rfl, (K4.out.alloc _).drew⟩
              case round =>
                obtain ⟨j, hj, rfl, hK2⟩ := hrel
                have K5 := hid hK2
                clear hK2
                by_cases hin : j < k2 ∧ k2 < l.length
                · obtain ⟨gv, ov, cv', hv, hgv, _, hcv⟩ : ∃ g off cap, Value.slice (some ⟨gw, ow, none⟩) l.length c3 = .slice (some ⟨g, off, none⟩) l.length cap ∧ g < W3.heap.size ∧ l.length ≤ maxLen ∧
                      ∀ i, i < l.length → W3.cell? ⟨g, off + i * 2, none⟩ = some (.int .i64 (at2 l i).1) ∧ W3.cell? ⟨g, off + i * 2 + 1, none⟩ = some (.int .i64 (at2 l i).2) := by
                    rcases rw3.out with ⟨_, h⟩ | h
                    · rw [h] at hin; simp at hin
                    · exact h
                  have hav2 : gw = gv ∧ ow = ov := by cases hv; exact ⟨rfl, rfl⟩
                  clear hv
                  obtain ⟨rfl, rfl⟩ := hav2
                  have p1 := (K5.out.cell (p := ⟨gw, ow + j * 2, none⟩) hgv (fun h => h)).trans (hcv j (by omega)).1
                  have p2 := (K5.out.cell (p := ⟨gw, ow + k2 * 2, none⟩) hgv (fun h => h)).trans (hcv k2 hin.2).1
                  have hne : ((at2 l j).1 == (at2 l k2).1) = false := by simpa using AP.out j k2 hin.1 hin.2
                  have in1 : (j : Int) < (k2 : Int) := by omega
                  have in2 : (k2 : Int) < (l.length : Int) := by omega
                  have in3 : j < l.length := by omega
                  have in4 : k2 < l.length := hin.2
                  clear hcv
                  go_wp2_with fail
                  refine wp_region_text [0,0,0,0,1,0,0,0,0,1,0] (fun _ => True) (by kernel_rfl) (by kernel_rfl) trivial ?_
                  repeat (first
                    | (refine' wpT_calm (v := _) (by rfl) (fun W hW => ?_) ?_; rotate_left
                       · ((try dsimp only at hW); go_simp; first | done | rfl)
                       simp only [Act.put, List.setIfInBounds_toArray, List.set_cons_zero, List.set_cons_succ])
                    | (refine' wpT_reads (v := _) (by rfl) ?_ ?_; rotate_left
                       · (go_simp; first | done | rfl)
                       simp only [Act.put, List.setIfInBounds_toArray, List.set_cons_zero, List.set_cons_succ])
                    | (refine wpT_skip (by rfl) rfl ?_; simp only [Act.put, List.setIfInBounds_toArray, List.set_cons_zero, List.set_cons_succ])
                    | (refine wpT_does (by rfl) (fun K hK => ?_); go_simp; refine hK _ _ ?_ ?_
                       · (trivial)
                       clear hK K; try simp only [Act.put, List.setIfInBounds_toArray, List.set_cons_zero, List.set_cons_succ])
                    | (refine wpT_last (by rfl) (fun K hK => ?_); go_simp; refine hK _ _ ?_; clear hK K)
                    | (refine wpT_nil ?_))
                  go_wp2_with fail
                  go_roundw
                  case rel => exact ⟨j + 1, by omega, by go_num, K5.out.drew⟩
                  case measure => simp [intOf]; omega
                · have hge5 : ¬ ((j : Int) < (k2 : Int)) ∨ (j : Int) < (k2 : Int) ∧ ¬ ((k2 : Int) < (l.length : Int)) := by omega
                  rcases hge5 with hge6 | ⟨hge6, hge7⟩
                  all_goals try (exfalso; omega)
                  all_goals
                    go_wp2_with fail
                    go_roundw
                    case rel => first | exact ⟨k2 + 1, by omega, by go_num, K5.out⟩ | ((repeat apply Exists.intro); exact ⟨⟨k2 + 1, by omega, by go_num, K5.out⟩, rfl⟩)
                    case measure => simp [intOf]; omega
            · rw [at2_zero (by omega)] at q1 q2
              have hkl' : ¬ ((k2 : Int) < (l.length : Int)) := by omega
              go_wp2_with fail
              refine wp_region_text [0,0,0,1,1,0] (fun _ => True) (by kernel_rfl) (by kernel_rfl) trivial ?_
              repeat (first
                | (refine' wpT_calm (v := _) (by rfl) (fun W hW => ?_) ?_; rotate_left
                   · ((try dsimp only at hW); go_simp; first | done | rfl)
                   simp only [Act.put, List.setIfInBounds_toArray, List.set_cons_zero, List.set_cons_succ])
                | (refine' wpT_reads (v := _) (by rfl) ?_ ?_; rotate_left
                   · (go_simp; first | done | rfl)
                   simp only [Act.put, List.setIfInBounds_toArray, List.set_cons_zero, List.set_cons_succ])
                | (refine wpT_skip (by rfl) rfl ?_; simp only [Act.put, List.setIfInBounds_toArray, List.set_cons_zero, List.set_cons_succ])
                | (refine wpT_does (by rfl) (fun K hK => ?_); go_simp; refine hK _ _ ?_ ?_
                   · (trivial)
                   clear hK K; try simp only [Act.put, List.setIfInBounds_toArray, List.set_cons_zero, List.set_cons_succ])
                | (refine wpT_last (by rfl) (fun K hK => ?_); go_simp; refine hK _ _ ?_; clear hK K)
                | (refine wpT_nil ?_))
              go_wp2_with fail
              go_loopw [9] (fun i wr2 => ∃ j : Nat, j ≤ k2 ∧ i = .int .i64 j ∧ Keep (fun _ => False) W3 wr2) (fun i _ => k2 - (intOf i).toNat)
              case atStart => exact ⟨0, by omega, rfl, (K4.out.alloc _).drew⟩
              case round =>
                obtain ⟨j, hj, rfl, hK2⟩ := hrel
                have K5 := hid hK2
                clear hK2
                by_cases hin : j < k2 ∧ k2 < l.length
                · obtain ⟨gv, ov, cv', hv, hgv, _, hcv⟩ : ∃ g off cap, Value.slice a3 l.length c3 = .slice (some ⟨g, off, none⟩) l.length cap ∧ g < W3.heap.size ∧ l.length ≤ maxLen ∧
                      ∀ i, i < l.length → W3.cell? ⟨g, off + i * 2, none⟩ = some (.int .i64 (at2 l i).1) ∧ W3.cell? ⟨g, off + i * 2 + 1, none⟩ = some (.int .i64 (at2 l i).2) := by
                    rcases rw3.out with ⟨_, h⟩ | h
                    · rw [h] at hin; simp at hin
                    · exact h
                  have hav2 : a3 = some ⟨gv, ov, none⟩ := by cases hv; rfl
                  clear hv
                  subst hav2
                  have p1 := (K5.out.cell (p := ⟨gv, ov + j * 2, none⟩) hgv (fun h => h)).trans (hcv j (by omega)).1
                  have p2 := (K5.out.cell (p := ⟨gv, ov + k2 * 2, none⟩) hgv (fun h => h)).trans (hcv k2 hin.2).1
                  have hne : ((at2 l j).1 == (at2 l k2).1) = false := by simpa using AP.out j k2 hin.1 hin.2
                  have in1 : (j : Int) < (k2 : Int) := by omega
                  have in2 : (k2 : Int) < (l.length : Int) := by omega
                  have in3 : j < l.length := by omega
                  have in4 : k2 < l.length := hin.2
                  clear hcv
                  go_wp2_with fail
                  refine wp_region_text [0,0,0,0,1,0,0,0,0,1,0] (fun _ => True) (by kernel_rfl) (by kernel_rfl) trivial ?_
                  repeat (first
                    | (refine' wpT_calm (v := _) (by rfl) (fun W hW => ?_) ?_; rotate_left
                       · ((try dsimp only at hW); go_simp; first | done | rfl)
                       simp only [Act.put, List.setIfInBounds_toArray, List.set_cons_zero, List.set_cons_succ])
                    | (refine' wpT_reads (v := _) (by rfl) ?_ ?_; rotate_left
                       · (go_simp; first | done | rfl)
                       simp only [Act.put, List.setIfInBounds_toArray, List.set_cons_zero, List.set_cons_succ])
                    | (refine wpT_skip (by rfl) rfl ?_; simp only [Act.put, List.setIfInBounds_toArray, List.set_cons_zero, List.set_cons_succ])
                    | (refine wpT_does (by rfl) (fun K hK => ?_); go_simp; refine hK _ _ ?_ ?_
                       · (trivial)
                       clear hK K; try simp only [Act.put, List.setIfInBounds_toArray, List.set_cons_zero, List.set_cons_succ])
                    | (refine wpT_last (by rfl) (fun K hK => ?_); go_simp; refine hK _ _ ?_; clear hK K)
                    | (refine wpT_nil ?_))
                  go_wp2_with fail
                  go_roundw
                  case rel => exact ⟨j + 1, by omega, by go_num, K5.out.drew⟩
                  case measure => simp [intOf]; omega
                · have hge5 : ¬ ((j : Int) < (k2 : Int)) ∨ (j : Int) < (k2 : Int) ∧ ¬ ((k2 : Int) < (l.length : Int)) := by omega
                  rcases hge5 with hge6 | ⟨hge6, hge7⟩
                  all_goals try (exfalso; omega)
                  all_goals
                    go_wp2_with fail
                    go_roundw
                    case rel => first | exact ⟨k2 + 1, by omega, by go_num, K5.out⟩ | ((repeat apply Exists.intro); exact ⟨⟨k2 + 1, by omega, by go_num, K5.out⟩, rfl⟩)
                    case measure => simp [intOf]; omega
          · have K4 := hid hK
            have he : k2 = 8 := by omega
            have hge8 : ¬ ((k2 : Int) < 8) := by omega
            clear hK
            go_wp2_with fail
            refine (awake_any _).mono ?_
            rintro _ W6 ⟨rfl, K6⟩
            have I6 := hid ((I3.out.keep K4.out (fun h => h)).keep K6 (fun h => h))
            have B6 := hid (B3.out.trans ((K4.out.trans K6).below (B := w.heap.size) (fun _ h => h.elim) B3.out.size))
            clear K6 K4
            go_wp2_with fail
            refine (len_any I6.out).mono ?_
            rintro _ W9 ⟨rfl, rfl⟩
            go_wp2
            go_ret
            exact ⟨rfl, B6.out⟩
end Go.Proofs.Yteobmdkghdjapaa
