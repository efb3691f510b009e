/- Are two lists of words one? And awake. -/
import Derived.Test.YtknlhbbkjgkjpaaLexE
namespace Go.Proofs.Ytknlhbbkjgkjpaa
open Go Go.RowKit

/-- A list of words that can be read. -/
def ReadW (w : World) (v : Value) (l : List W3) : Prop :=
  (∃ a c, v = .slice a 0 c ∧ l = []) ∨ ∃ g off c, v = .slice (some ⟨g, off, none⟩) l.length c ∧ g < w.heap.size ∧ l.length ≤ maxLen ∧
    ∀ i, i < l.length → w.cell? ⟨g, off + i * 3, none⟩ = some (.string (bs (gw l i).1)) ∧ w.cell? ⟨g, off + i * 3 + 1, none⟩ = some (.int .i64 ((gw l i).2.1 : Int)) ∧ w.cell? ⟨g, off + i * 3 + 2, none⟩ = some (.int .i64 ((gw l i).2.2 : Int))
theorem ReadW.form {w : World} {v : Value} {l : List W3} (h : ReadW w v l) : ∃ a c, v = .slice a l.length c := by
  obtain ⟨a, c, rfl, rfl⟩ | ⟨g, off, c, rfl, _⟩ := h
  · exact ⟨a, c, rfl⟩
  · exact ⟨_, c, rfl⟩
theorem ReadW.keep {F : Nat → Prop} {w w' : World} {v : Value} {l : List W3} (h : ReadW w v l) (hK : Keep F w w') (hF : ∀ k, v.ownBlock = some k → ¬ F k) : ReadW w' v l := by
  obtain h | ⟨g, off, c, rfl, hg, hm, hc⟩ := h
  · exact .inl h
  · exact .inr ⟨g, off, c, rfl, Nat.lt_of_lt_of_le hg hK.size, hm, fun i hi => ⟨(hK.cell (p := ⟨g, off + i * 3, none⟩) hg (hF g rfl)).trans (hc i hi).1, (hK.cell (p := ⟨g, off + i * 3 + 1, none⟩) hg (hF g rfl)).trans (hc i hi).2.1, (hK.cell (p := ⟨g, off + i * 3 + 2, none⟩) hg (hF g rfl)).trans (hc i hi).2.2⟩⟩
theorem read_row {w : World} {g : Nat} {cur : Array Value} {l : List W3} {c : Nat} (hg : w.heap[g]? = some (.cells cur 32 (0, 0))) (ht : cur.toList.take (l.length * 3) = flatW l) (hm : l.length ≤ maxLen) : ReadW w (.slice (some ⟨g, 0, none⟩) l.length c) l := by
  refine .inr ⟨g, 0, c, rfl, lt_of_heap hg, hm, fun i hi => ?_⟩
  have hcell : ∀ j v, (flatW l)[j]? = some v → w.cell? ⟨g, j, none⟩ = some v := fun j v hv => by
    rw [cell_of_row w g j cur 32 (0, 0) hg]
    rw [← ht, List.getElem?_take] at hv
    split at hv
    · simpa using hv
    · cases hv
  have := flatW_get l i hi
  rw [Nat.zero_add]
  exact ⟨hcell _ _ this.1, hcell _ _ this.2.1, hcell _ _ this.2.2⟩
theorem ClipW.reads {w0 w : World} {v : Value} {l : List W3} (h : ClipW w0 w v l) : ReadW w v l := by
  obtain ⟨rfl, rfl⟩ | ⟨g, cur, rfl, _, hg, ht, hm⟩ := h
  · exact .inl ⟨_, _, rfl, rfl⟩
  · exact read_row hg ht hm
theorem OwnW.reads {w : World} {v : Value} {l : List W3} (h : OwnW w v l) : ReadW w v l := by
  obtain ⟨h1, ⟨rfl, h0⟩ | ⟨g, cap, cur, rfl, _, hg, hn, hc, hs, ht⟩⟩ := h
  · exact .inl ⟨_, _, rfl, List.eq_nil_of_length_eq_zero h0⟩
  · exact read_row hg ht (Nat.le_trans hn hc)

def aggW (x : W3) : Value := .agg #[.string (bs x.1), .int .i64 (x.2.1 : Int), .int .i64 (x.2.2 : Int)]
theorem guardW (op : BinOp) (x y : Operand) (xs ys : Array Value) (W : World) : (eqGuard op 32 x y (.agg xs) (.agg ys)).run Try.prog W = .ok () W := run_eqGuard_agg W op 32 x y xs ys (by kernel_rfl)
theorem eqW (x y : W3) (W : World) : (Op.equalIn 10000 32 (.agg #[.string (bs x.1), .int .i64 (x.2.1 : Int), .int .i64 (x.2.2 : Int)]) (.agg #[.string (bs y.1), .int .i64 (y.2.1 : Int), .int .i64 (y.2.2 : Int)])).run Try.prog W = .ok (decide (x = y)) W := by
  rw [run_equalIn_struct (P := Try.prog) W 9999 32 _ _ (by kernel_rfl) (by kernel_rfl)]
  have h0 : ∀ W, (Op.equalIn 9999 9 (.string (bs x.1)) (.string (bs y.1))).run Try.prog W = .ok (decide (x.1 = y.1)) W := fun W => by
    rw [run_equalIn_string W 9998 9 (bs x.1) (bs y.1) Try.underlying9, bs_beq]
  have h1 : ∀ W, (Op.equalIn 9999 3 (.int .i64 (x.2.1 : Int)) (.int .i64 (y.2.1 : Int))).run Try.prog W = .ok ((x.2.1 : Int) == (y.2.1 : Int)) W := fun W => run_equalIn_int W 9998 3 .i64 .i64 _ _ Try.underlying3
  have h2 : ∀ W, (Op.equalIn 9999 3 (.int .i64 (x.2.2 : Int)) (.int .i64 (y.2.2 : Int))).run Try.prog W = .ok ((x.2.2 : Int) == (y.2.2 : Int)) W := fun W => run_equalIn_int W 9998 3 .i64 .i64 _ _ Try.underlying3
  generalize 9999 = n at *
  have e : (decide (x = y)) = (decide (x.1 = y.1) && (((x.2.1 : Int) == (y.2.1 : Int)) && ((x.2.2 : Int) == (y.2.2 : Int)))) := by
    obtain ⟨a, b, c⟩ := x
    obtain ⟨a', b', c'⟩ := y
    rw [Bool.eq_iff_iff]
    simp
    intro _
    omega
  rw [e]
  simp [Program.fieldsOf, Try.underlying32, Op.eqFields]
  go_simp
  by_cases e1 : x.1 = y.1 <;> by_cases e2 : (x.2.1 : Int) = (y.2.1 : Int) <;> by_cases e3 : (x.2.2 : Int) = (y.2.2 : Int) <;> simp [e1, e2, e3]
theorem neqW (x y : W3) (W : World) : (binOp .neq 32 (.agg #[.string (bs x.1), .int .i64 (x.2.1 : Int), .int .i64 (x.2.2 : Int)]) (.agg #[.string (bs y.1), .int .i64 (y.2.1 : Int), .int .i64 (y.2.2 : Int)])).run Try.prog W = .ok (.bool (!decide (x = y))) W := by
  rw [run_neq_struct, eqW]; rfl
attribute [local go_sem 100000] guardW neqW

theorem ReadW.at {w : World} {v : Value} {l : List W3} (h : ReadW w v l) {n : Nat} (hn : l.length = n) (hp : 0 < n) : ∃ g off c, v = .slice (some ⟨g, off, none⟩) n c ∧ g < w.heap.size ∧ n ≤ maxLen ∧
    ∀ i, i < n → w.cell? ⟨g, off + i * 3, none⟩ = some (.string (bs (gw l i).1)) ∧ w.cell? ⟨g, off + i * 3 + 1, none⟩ = some (.int .i64 ((gw l i).2.1 : Int)) ∧ w.cell? ⟨g, off + i * 3 + 2, none⟩ = some (.int .i64 ((gw l i).2.2 : Int)) := by
  subst hn
  rcases h with ⟨_, _, _, h0⟩ | ⟨g, off, c, h1, h2, h3, h4⟩
  · rw [h0] at hp; exact absurd hp (Nat.lt_irrefl _)
  · exact ⟨g, off, c, h1, h2, h3, h4⟩

set_option maxRecDepth 10000 in
set_option maxHeartbeats 1000000 in
theorem alike_any {w : World} {v v' : Value} {l m : List W3} (h : ReadW w v l) (h' : ReadW w v' m) :
    Calls Try.prog 15 #[v, v'] w fun e w' => e = .returned (.bool (decide (l = m))) ∧ Keep (fun _ => False) w w' := by
  obtain ⟨a, c, hv⟩ := h.form
  obtain ⟨a', c', hv'⟩ := h'.form
  have H := hid h
  have H' := hid h'
  subst hv hv'
  by_cases hlm : l.length = m.length
  · obtain ⟨n, hn⟩ : ∃ n, l.length = n := ⟨_, rfl⟩
    have hn' : m.length = n := by omega
    have HN := hid hn
    have HN' := hid hn'
    rw [hn] at H ⊢
    rw [hn'] at H' ⊢
    clear h h' hn hn' hlm
    go_enter Try.func15, Try.ntmps15
    go_wp2_with fail
    go_loopw [5] (fun i wr => ∃ k : Nat, k ≤ n ∧ i = .int .i64 k ∧ (∀ j, j < k → gw l j = gw m j) ∧ Keep (fun _ => False) w wr) (fun i _ => n - (intOf i).toNat)
    case atStart => exact ⟨0, by omega, rfl, fun j h => absurd h (Nat.not_lt_zero j), Keep.refl _ _⟩
    case round =>
      obtain ⟨k, hk, rfl, hno, hK⟩ := hrel
      by_cases hlt : k < n
      · have hlt' : (k : Int) < (n : Int) := by omega
        obtain ⟨g, o, c1, hv1, hg, hmx, hc⟩ := (H.out.keep hK (fun _ _ h => h)).at HN.out (by omega)
        obtain ⟨g', o', c1', hv1', hg', hmx', hc'⟩ := (H'.out.keep hK (fun _ _ h => h)).at HN'.out (by omega)
        simp only [Value.slice.injEq] at hv1 hv1'
        obtain ⟨rfl, -, rfl⟩ := hv1
        obtain ⟨rfl, -, rfl⟩ := hv1'
        obtain ⟨a1, a2, a3⟩ := hc k hlt
        obtain ⟨b1, b2, b3⟩ := hc' k hlt
        have HK := hid hK
        have HNO := hid hno
        obtain ⟨x, hx⟩ : ∃ x, gw l k = x := ⟨_, rfl⟩
        obtain ⟨y, hy⟩ : ∃ y, gw m k = y := ⟨_, rfl⟩
        have HX := hid hx
        have HY := hid hy
        rw [hx] at a1 a2 a3
        rw [hy] at b1 b2 b3
        have NB : ∀ W, (binOp .neq 32 (.agg #[.string (bs x.1), .int .i64 (x.2.1 : Int), .int .i64 (x.2.2 : Int)]) (.agg #[.string (bs y.1), .int .i64 (y.2.1 : Int), .int .i64 (y.2.2 : Int)])).run Try.prog W = .ok (.bool (!decide (x = y))) W := neqW x y
        unfold maxLen at hmx hmx'
        clear hK hno hc hc' hx hy
        by_cases hxy : x = y
        · have B : decide (x = y) = true := decide_eq_true hxy
          have HXY := hid hxy
          clear hxy
          go_wp2_with fail
          refine wp_region_text [0,0,0,1,0,0,0,1,0] (fun _ => True) (by kernel_rfl) (by kernel_rfl) trivial ?_
          repeat (first
            | (refine' wpT_calm (v := _) (by rfl) (fun W hW => ?_) ?_; rotate_left
               · ((try dsimp only at hW); go_simp; first | done | rfl)
               simp only [Act.put, List.setIfInBounds_toArray, List.set_cons_zero, List.set_cons_succ])
            | (refine' wpT_reads (v := _) (by rfl) ?_ ?_; rotate_left
               · (go_simp; first | done | rfl)
               simp only [Act.put, List.setIfInBounds_toArray, List.set_cons_zero, List.set_cons_succ])
            | (refine wpT_skip (by rfl) rfl ?_; simp only [Act.put, List.setIfInBounds_toArray, List.set_cons_zero, List.set_cons_succ])
            | (refine wpT_does (by rfl) (fun K hK => ?_); go_simp; refine hK _ _ ?_ ?_
               · (trivial)
               clear hK K; try simp only [Act.put, List.setIfInBounds_toArray, List.set_cons_zero, List.set_cons_succ])
            | (refine wpT_last (by rfl) (fun K hK => ?_); go_simp; refine hK _ _ ?_; clear hK K)
            | (refine wpT_nil ?_))
          go_wp2_with fail
          go_roundw
          case rel =>
            refine ⟨k + 1, by omega, by go_num, fun j hj => ?_, HK.out.drew⟩
            by_cases e : j = k
            · subst e; rw [HX.out, HY.out]; exact HXY.out
            · exact HNO.out j (by omega)
          case measure => simp [intOf]; omega
        · have B : decide (x = y) = false := decide_eq_false hxy
          have hf : Hid (decide (l = m) = false) := hid (decide_eq_false (fun e => hxy (by rw [← HX.out, ← HY.out, e])))
          clear hxy
          go_wp2_with fail
          refine wp_region_text [0,0,0,1,0,0,0,1,0] (fun _ => True) (by kernel_rfl) (by kernel_rfl) trivial ?_
          repeat (first
            | (refine' wpT_calm (v := _) (by rfl) (fun W hW => ?_) ?_; rotate_left
               · ((try dsimp only at hW); go_simp; first | done | rfl)
               simp only [Act.put, List.setIfInBounds_toArray, List.set_cons_zero, List.set_cons_succ])
            | (refine' wpT_reads (v := _) (by rfl) ?_ ?_; rotate_left
               · (go_simp; first | done | rfl)
               simp only [Act.put, List.setIfInBounds_toArray, List.set_cons_zero, List.set_cons_succ])
            | (refine wpT_skip (by rfl) rfl ?_; simp only [Act.put, List.setIfInBounds_toArray, List.set_cons_zero, List.set_cons_succ])
            | (refine wpT_does (by rfl) (fun K hK => ?_); go_simp; refine hK _ _ ?_ ?_
               · (trivial)
               clear hK K; try simp only [Act.put, List.setIfInBounds_toArray, List.set_cons_zero, List.set_cons_succ])
            | (refine wpT_last (by rfl) (fun K hK => ?_); go_simp; refine hK _ _ ?_; clear hK K)
            | (refine wpT_nil ?_))
          go_wp2_with fail
          go_ret
          exact ⟨by rw [hf.out]; rfl, HK.out.drew⟩
      · obtain rfl : k = n := by omega
        have hlt' : ¬ (k : Int) < (k : Int) := by omega
        have ht : decide (l = m) = true := by
          refine decide_eq_true (List.ext_getElem? fun j => ?_)
          by_cases hj : j < l.length
          · have hj' : j < m.length := by have := HN.out; have := HN'.out; omega
            have := hno j (by have := HN.out; omega)
            rw [List.getElem?_eq_getElem hj, List.getElem?_eq_getElem hj']
            simp only [gw, List.getD, List.getElem?_eq_getElem hj, List.getElem?_eq_getElem hj', Option.getD_some] at this
            rw [this]
          · have := HN.out
            have := HN'.out
            rw [List.getElem?_eq_none (by omega), List.getElem?_eq_none (by omega)]
        have HT := hid ht
        have HK := hid hK
        clear hK hno ht
        go_wp2_with fail
        go_ret
        exact ⟨by rw [HT.out]; rfl, HK.out⟩
  · have hf : Hid (decide (l = m) = false) := hid (decide_eq_false (fun e => hlm (by rw [e])))
    have h1 : ((l.length : Int) != (m.length : Int)) = true := by simp; omega
    clear hlm h h'
    go_enter Try.func15, Try.ntmps15
    go_wp2_with fail
    go_ret
    exact ⟨by rw [hf.out]; rfl, Keep.refl _ _⟩

set_option maxRecDepth 10000 in
set_option maxHeartbeats 1000000 in
theorem lawake_any (w : World) :
    Calls Try.prog 14 #[] w fun e w' => e = .returned (.bool true) ∧ Keep (fun _ => False) w w' := by
  have A1 := words_any [97, 32, 32, 98, 99, 35, 100, 10, 32, 101] (by decide)
  have A2 := words_any [97, 98, 10, 32, 99, 9, 100] (by decide)
  rw [lex_awake1] at A1
  rw [lex_awake2] at A2
  have A1 := hid A1
  have A2 := hid A2
  go_enter Try.func14, Try.ntmps14
  go_wp2_with fail
  refine (A1.out w).mono ?_
  rintro _ w1 ⟨v1, rfl, cl1, k1⟩
  have RD1 := hid cl1.reads
  obtain ⟨a1, c1, hv1⟩ := cl1.reads.form
  subst hv1
  have K1 := hid k1
  clear cl1 k1
  go_wp2_with fail
  refine (A2.out w1).mono ?_
  rintro _ w2 ⟨v2, rfl, cl2, k2⟩
  have RD2 := hid (RD1.out.keep k2 (fun _ _ h => h))
  have K2 := hid (K1.out.trans k2)
  obtain ⟨a2, c2, hv2⟩ := cl2.reads.form
  subst hv2
  clear cl2 k2 RD1 K1
  have hb : ReadW (w2.alloc (.cells #[.string (bs [97]), .int .i64 1, .int .i64 1, .string (bs [98, 99]), .int .i64 1, .int .i64 4, .string (bs [101]), .int .i64 2, .int .i64 2] 32)) (.slice (some ⟨w2.heap.size, 0, none⟩) 3 3) [([97], 1, 1), ([98, 99], 1, 4), ([101], 2, 2)] :=
    read_row (l := [([97], 1, 1), ([98, 99], 1, 4), ([101], 2, 2)]) (heap_alloc_new w2 _) rfl (by unfold maxLen; decide)
  have ha := RD2.out.keep ((Keep.refl (fun _ => False) w2).alloc (.cells #[.string (bs [97]), .int .i64 1, .int .i64 1, .string (bs [98, 99]), .int .i64 1, .int .i64 4, .string (bs [101]), .int .i64 2, .int .i64 2] 32)) (fun _ _ h => h)
  have K3 := hid (K2.out.alloc (.cells #[.string (bs [97]), .int .i64 1, .int .i64 1, .string (bs [98, 99]), .int .i64 1, .int .i64 4, .string (bs [101]), .int .i64 2, .int .i64 2] 32))
  have AK := alike_any ha hb
  rw [show decide (([([97], 1, 1), ([98, 99], 1, 4), ([101], 2, 2)] : List W3) = [([97], 1, 1), ([98, 99], 1, 4), ([101], 2, 2)]) = true from decide_eq_true rfl] at AK
  have AK := hid AK
  clear hb ha RD2
  go_wp2_with fail
  refine AK.out.mono ?_
  rintro _ w3 ⟨rfl, k3⟩
  have K4 := hid (K3.out.trans k3)
  clear k3 AK
  go_wp2_with fail
  go_ret
  exact ⟨rfl, K4.out⟩
end Go.Proofs.Ytknlhbbkjgkjpaa
