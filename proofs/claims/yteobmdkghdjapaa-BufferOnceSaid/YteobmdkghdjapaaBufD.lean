/- The walks of the reference's buffer (a list that grows), and of the look whether two lists of wake-ups are one. -/
import Derived.Test.YteobmdkghdjapaaBufC
namespace Go.Proofs.Yteobmdkghdjapaa
open Go.RowKit

/-- A slice that only is read: its elements' cells. -/
def ReadsW (w : World) (v : Value) (l : List (Int × Int)) : Prop :=
  (v = .slice none 0 0 ∧ l = []) ∨ ∃ g off cap, v = .slice (some ⟨g, off, none⟩) l.length cap ∧ g < w.heap.size ∧ l.length ≤ maxLen ∧
    ∀ i, i < l.length → w.cell? ⟨g, off + i * 2, none⟩ = some (.int .i64 (at2 l i).1) ∧ w.cell? ⟨g, off + i * 2 + 1, none⟩ = some (.int .i64 (at2 l i).2)

theorem Wakes.reads {w : World} {v : Value} {l : List (Int × Int)} (h : Wakes w v l) : ReadsW w v l := by
  obtain ⟨h1, h2 | ⟨g, cap, cur, rfl, _, hg, hn, hc, hs, ht⟩⟩ := h
  · exact .inl ⟨h2.1, List.eq_nil_of_length_eq_zero h2.2⟩
  · have hcell : ∀ j v, (flat2 l)[j]? = some v → w.cell? ⟨g, j, none⟩ = some v := fun j v hv => by
      rw [cell_of_row w g j cur 31 (0, 0) hg]
      rw [← ht, List.getElem?_take] at hv
      split at hv
      · simpa using hv
      · cases hv
    refine .inr ⟨g, 0, cap, rfl, lt_of_heap hg, Nat.le_trans hn hc, fun i hi => ?_⟩
    have := flat2_get l i hi
    exact ⟨by rw [Nat.zero_add]; exact hcell _ _ this.1, by rw [Nat.zero_add]; exact hcell _ _ this.2⟩

theorem guard31 (op : BinOp) (x y : Operand) (xs ys : Array Value) (W : World) : (eqGuard op 31 x y (.agg xs) (.agg ys)).run Try.prog W = .ok () W := run_eqGuard_agg W op 31 x y xs ys (by kernel_rfl)
theorem eq31 (a b c d : Int) (W : World) : (Op.equalIn 10000 31 (.agg #[.int .i64 a, .int .i64 b]) (.agg #[.int .i64 c, .int .i64 d])).run Try.prog W = .ok (a == c && b == d) W := by
  rw [run_equalIn_struct (P := Try.prog) W 9999 31 _ _ (by kernel_rfl) (by kernel_rfl)]
  have h1 : ∀ W, (Op.equalIn 9999 3 (.int .i64 a) (.int .i64 c)).run Try.prog W = .ok (a == c) W := fun W => run_equalIn_int W 9998 3 .i64 .i64 a c Try.underlying3
  have h2 : ∀ W, (Op.equalIn 9999 29 (.int .i64 b) (.int .i64 d)).run Try.prog W = .ok (b == d) W := fun W => run_equalIn_int W 9998 29 .i64 .i64 b d Try.underlying29
  generalize 9999 = n at *
  simp [Program.fieldsOf, Try.underlying31, Op.eqFields]
  go_simp
  by_cases e1 : a = c <;> by_cases e2 : b = d <;> simp [e1, e2]
theorem neq31 (a b c d : Int) (W : World) : (binOp .neq 31 (.agg #[.int .i64 a, .int .i64 b]) (.agg #[.int .i64 c, .int .i64 d])).run Try.prog W = .ok (.bool (!(a == c && b == d))) W := by
  rw [run_neq_struct, eq31]; rfl
theorem eql31 (a b c d : Int) (W : World) : (binOp .eql 31 (.agg #[.int .i64 a, .int .i64 b]) (.agg #[.int .i64 c, .int .i64 d])).run Try.prog W = .ok (.bool (a == c && b == d)) W := by
  rw [run_eql_struct, eq31]; rfl
attribute [local go_sem 100000] guard31 neq31 eql31

def alikeB (l m : List (Int × Int)) : Bool := decide (l = m)

set_option maxHeartbeats 400000 in
theorem alike_some {w : World} (l m : List (Int × Int)) (g o c g' o' c' : Nat) (hlm : l.length = m.length) (hmax : l.length ≤ maxLen) (hg : g < w.heap.size) (hg' : g' < w.heap.size)
    (h : ∀ i, i < l.length → w.cell? ⟨g, o + i * 2, none⟩ = some (.int .i64 (at2 l i).1) ∧ w.cell? ⟨g, o + i * 2 + 1, none⟩ = some (.int .i64 (at2 l i).2))
    (h' : ∀ i, i < m.length → w.cell? ⟨g', o' + i * 2, none⟩ = some (.int .i64 (at2 m i).1) ∧ w.cell? ⟨g', o' + i * 2 + 1, none⟩ = some (.int .i64 (at2 m i).2)) :
    Calls Try.prog 17 #[.slice (some ⟨g, o, none⟩) l.length c, .slice (some ⟨g', o', none⟩) m.length c'] w fun en w' => en = .returned (.bool (alikeB l m)) ∧ Keep (fun _ => False) w w' := by
  unfold maxLen at hmax
  have hl0 : ((l.length : Int) == (m.length : Int)) = true := by simp [hlm]
  have hl1 : ((l.length : Int) != (m.length : Int)) = false := by simp [hlm]
  have HL := hid hlm
  clear hlm
  go_enter Try.func17, Try.ntmps17
  go_wp2
  go_loopw [5] (fun i wr => ∃ k : Nat, k ≤ l.length ∧ i = .int .i64 k ∧ (∀ j, j < k → at2 l j = at2 m j) ∧ Keep (fun _ => False) w wr) (fun i _ => l.length - (intOf i).toNat)
  case atStart => exact ⟨0, by omega, rfl, fun j h => absurd h (Nat.not_lt_zero j), Keep.refl _ _⟩
  case round =>
    obtain ⟨k, hk, rfl, hno, hK⟩ := hrel
    by_cases hlt : k < l.length
    · have hlt' : k < m.length := by have := HL.out; omega
      have a1 := (hK.cell (p := ⟨g, o + k * 2, none⟩) hg (fun h => h)).trans (h k hlt).1
      have a2 := (hK.cell (p := ⟨g, o + k * 2 + 1, none⟩) hg (fun h => h)).trans (h k hlt).2
      have b1 := (hK.cell (p := ⟨g', o' + k * 2, none⟩) hg' (fun h => h)).trans (h' k hlt').1
      have b2 := (hK.cell (p := ⟨g', o' + k * 2 + 1, none⟩) hg' (fun h => h)).trans (h' k hlt').2
      have HK := hid hK
      have HN := hid hno
      clear h h' hK hno
      go_wp2
      refine wp_region_text [0,0,0,1,0,0,0,1,0] (fun _ => True) (by kernel_rfl) (by kernel_rfl) trivial ?_
      repeat (first
        | (refine' wpT_calm (v := _) (by rfl) (fun W hW => ?_) ?_; rotate_left
           · ((try dsimp only at hW); go_simp; first | done | rfl)
           simp only [Act.put, List.setIfInBounds_toArray, List.set_cons_zero, List.set_cons_succ])
        | (refine' wpT_reads (v := _) (by rfl) ?_ ?_; rotate_left
           · (go_simp; first | done | rfl)
           simp only [Act.put, List.setIfInBounds_toArray, List.set_cons_zero, List.set_cons_succ])
        | (refine wpT_skip (by rfl) rfl ?_; simp only [Act.put, List.setIfInBounds_toArray, List.set_cons_zero, List.set_cons_succ])
        | (refine wpT_does (by rfl) (fun K hK => ?_); go_simp; refine hK _ _ ?_ ?_
           · (trivial)
           clear hK K; try simp only [Act.put, List.setIfInBounds_toArray, List.set_cons_zero, List.set_cons_succ])
        | (refine wpT_last (by rfl) (fun K hK => ?_); go_simp; refine hK _ _ ?_; clear hK K)
        | (refine wpT_nil ?_))
      go_wp2
      · have hne : (!(at2 l k).1 == (at2 m k).1) = true ∨ (!(at2 l k).2 == (at2 m k).2) = true := by assumption
        have hf : alikeB l m = false := by
          unfold alikeB
          refine decide_eq_false fun e => ?_
          subst e
          rcases hne with h | h <;> simp at h
        have HF := hid hf
        go_ret
        exact ⟨by rw [HF.out]; rfl, HK.out.drew⟩
      · have hne : (!(at2 l k).1 == (at2 m k).1) = false ∧ (!(at2 l k).2 == (at2 m k).2) = false := by assumption
        have he : at2 l k = at2 m k := Prod.ext (by simpa using hne.1) (by simpa using hne.2)
        have HE := hid he
        clear he
        go_roundw
        case rel =>
          refine ⟨k + 1, by omega, by go_num, fun j hj => ?_, HK.out.drew⟩
          by_cases e : j = k
          · subst e; exact HE.out
          · exact HN.out j (by omega)
        case measure => simp [intOf]; omega
    · have ht : alikeB l m = true := by
        unfold alikeB
        refine decide_eq_true (List.ext_getElem? fun j => ?_)
        by_cases hj : j < l.length
        · have hj' : j < m.length := by have := HL.out; omega
          have := hno j (by omega)
          rw [List.getElem?_eq_getElem hj, List.getElem?_eq_getElem hj']
          simp only [at2, List.getD, List.getElem?_eq_getElem hj, List.getElem?_eq_getElem hj', Option.getD_some] at this
          rw [this]
        · have := HL.out
          rw [List.getElem?_eq_none (by omega), List.getElem?_eq_none (by omega)]
      have HT := hid ht
      have HK := hid hK
      clear h h' hK hno ht
      go_wp2
      go_ret
      exact ⟨by rw [HT.out]; rfl, HK.out⟩

set_option maxHeartbeats 400000 in
theorem alike_lens {w : World} (n n' : Nat) (a a' : Option Addr) (c c' : Nat) (hne : n ≠ n') :
    Calls Try.prog 17 #[.slice a n c, .slice a' n' c'] w fun en w' => en = .returned (.bool false) ∧ w = w' := by
  have h1 : ((n : Int) != (n' : Int)) = true := by simp; omega
  go_enter Try.func17, Try.ntmps17
  go_wp2
  go_ret
  exact ⟨rfl, rfl⟩

set_option maxHeartbeats 400000 in
theorem alike_none {w : World} (a a' : Option Addr) (c c' : Nat) :
    Calls Try.prog 17 #[.slice a 0 c, .slice a' 0 c'] w fun en w' => en = .returned (.bool true) ∧ w = w' := by
  go_enter Try.func17, Try.ntmps17
  go_wp2
  refine wp_loop_once ?_
  go_wp2
  go_ret
  exact ⟨rfl, rfl⟩

theorem alike_any {w : World} {l m : List (Int × Int)} {v v' : Value} (h : ReadsW w v l) (h' : ReadsW w v' m) :
    Calls Try.prog 17 #[v, v'] w fun en w' => en = .returned (.bool (alikeB l m)) ∧ Keep (fun _ => False) w w' := by
  by_cases hl : l.length = m.length
  · rcases h with ⟨rfl, rfl⟩ | ⟨g, o, c, rfl, hg, hn, h⟩
    · have : m = [] := List.eq_nil_of_length_eq_zero (by simpa using hl.symm)
      subst this
      rcases h' with ⟨rfl, _⟩ | ⟨g', o', c', rfl, _⟩
      · exact (alike_none none none 0 0).mono fun e w' ⟨a, b⟩ => ⟨a, b ▸ Keep.refl _ _⟩
      · exact (alike_none none _ 0 c').mono fun e w' ⟨a, b⟩ => ⟨a, b ▸ Keep.refl _ _⟩
    · rcases h' with ⟨rfl, rfl⟩ | ⟨g', o', c', rfl, hg', hn', h'⟩
      · have : l = [] := List.eq_nil_of_length_eq_zero (by simpa using hl)
        subst this
        exact (alike_none _ none c 0).mono fun e w' ⟨a, b⟩ => ⟨a, b ▸ Keep.refl _ _⟩
      · exact alike_some l m g o c g' o' c' hl hn hg hg' h h'
  · have hf : alikeB l m = false := decide_eq_false fun e => hl (by rw [e])
    rw [hf]
    have hv : ∃ a c, v = .slice a l.length c := by
      rcases h with ⟨rfl, rfl⟩ | ⟨g, o, c, rfl, _⟩
      · exact ⟨none, 0, rfl⟩
      · exact ⟨_, _, rfl⟩
    have hv' : ∃ a c, v' = .slice a m.length c := by
      rcases h' with ⟨rfl, rfl⟩ | ⟨g, o, c, rfl, _⟩
      · exact ⟨none, 0, rfl⟩
      · exact ⟨_, _, rfl⟩
    obtain ⟨a, c, rfl⟩ := hv
    obtain ⟨a', c', rfl⟩ := hv'
    exact (alike_lens _ _ a a' c c' hl).mono fun e w' ⟨x, y⟩ => ⟨x, y ▸ Keep.refl _ _⟩

end Go.Proofs.Yteobmdkghdjapaa
