/- slices.Chunk: its iterator over blocks of 136 bytes. -/
import Derived.Test.YtpijnpapmdnceaaDigE
import Derived.Test.YtpijnpapmdnceaaRnd2
import Derived.RangeFuncNested
import Derived.RangeFuncBound
import Derived.RangeFuncCalls
import Derived.RangeFuncLeaves
import Derived.RangeFuncBox
import Derived.Shelf.Abstract
import Derived.Shelf.RegionOpen
import Derived.WalkKit
import Derived.OwnWalkIn
import Derived.TacticsInMore
import Derived.LoopNIn
import Derived.LoopIn
import Derived.WalkLawsBesides
namespace Go.Proofs.Ytpijnpapmdnceaa
open Go Go.RowKit Go.Shelf

attribute [local go_sem] Oper.semAt_some

theorem fin_succ (n k : Nat) (h : k < n) : (List.finRange n).take (k + 1) = (List.finRange n).take k ++ [⟨k, h⟩] := by
  rw [List.take_succ_eq_append_getElem (by rw [List.length_finRange]; exact h)]
  simp
theorem fin_all (n k : Nat) (h : n ≤ k) : (List.finRange n).take k = List.finRange n := List.take_of_length_le (by rw [List.length_finRange]; exact h)
theorem fin_len (n k : Nat) : ((List.finRange n).take k).length ≤ k := List.length_take_le _ _

set_option maxRecDepth 100000 in
set_option maxHeartbeats 1000000 in
theorem chunk1_in (n : Nat) (hn : 1 ≤ n) (l Bs Bn b B g off cap T JJ : Nat) (hT : T = 136 * JJ) (hJJ : JJ ≤ 100) (hcap : T ≤ cap) (hmx : cap ≤ maxLen) (J Jx : List (Fin JJ) → World → Prop)
    (hY : ∀ pre x W, J pre W → pre.length < JJ → YieldAt Fence.wide (n - 1) Try.prog l #[.slice (some ⟨g, off + 136 * x.1, none⟩) 136 136] W fun e W' =>
      (e = .returned (.bool true) ∧ J (pre ++ [x]) W' ∧ Keep (fun k => k = b ∨ B ≤ k) W W') ∨ (e = .returned (.bool false) ∧ Jx (pre ++ [x]) W'))
    (W : World) (hs1 : Bs ≠ b) (hs2 : Bs < B) (hn1 : Bn ≠ b) (hn2 : Bn < B) (hBW : B ≤ W.heap.size) (hJ : AbidesFrom W.heap.size J) (hs : W.cell? ⟨Bs, 0, none⟩ = some (.slice (some ⟨g, off, none⟩) T cap))
    (hnn : W.cell? ⟨Bn, 0, none⟩ = some (.int .i64 136)) (h0 : J [] W) :
    CallsIn Fence.wide n Try.prog 44 #[.func (.yield l) #[] #[], .pointer (some ⟨Bs, 0, none⟩), .pointer (some ⟨Bn, 0, none⟩)] W fun e W' => (∃ v, e = .returned v) ∧
      ((∃ ys, ys = List.finRange JJ ∧ J ys W') ∨ (∃ pre, True ∧ Jx pre W')) := by
  unfold maxLen at hmx
  have HT := hid hT
  have HJ := hid hJ
  have HS := hid hs
  have HN := hid hnn
  have T0 : T ≤ 13600 := by omega
  clear hJ hs hnn hT
  have hro : Fence.wide.round = none := rfl
  refine callsIn_of_wp Try.func44 rfl trivial ?_ hro
  simp only [Try.ntmps44, List.size_toArray, List.length_cons, List.length_nil, Nat.reduceAdd, Nat.reduceSub, Array.replicate_succ, Array.replicate_zero, List.push_toArray, List.append_toArray, List.nil_append, List.cons_append]
  gi_wp2
  gi_loopw [4] (fun i wr => ∃ k p : Nat, k ≤ JJ ∧ p = 136 * k ∧ i = .int .i64 p ∧ J ((List.finRange JJ).take k) wr ∧ Keep (fun k => k = b ∨ B ≤ k) W wr)
    (fun i _ => T - (intOf i).toNat)
  case atStart => exact ⟨0, 0, Nat.zero_le _, rfl, rfl, h0, Keep.refl _ _⟩
  case round =>
    obtain ⟨k, p, hk, hp, rfl, hJs, hK⟩ := hrel
    have cs := (hK.cell (p := ⟨Bs, 0, none⟩) (by dsimp only; omega) (by dsimp only; omega)).trans HS.out
    have cn := (hK.cell (p := ⟨Bn, 0, none⟩) (by dsimp only; omega) (by dsimp only; omega)).trans HN.out
    by_cases hlt : k < JJ
    · have hpT : p + 136 ≤ T := by have := HT.out; omega
      have hJn := HJ.out _ _ wr.drew none hJs ⟨rfl, rfl, rfl, Nat.le_refl _, fun _ _ _ => rfl⟩ (fun r e => by cases e)
      obtain ⟨fn, tmps, assign, body, hy, hR⟩ := hY _ ⟨k, hlt⟩ _ hJn (Nat.lt_of_le_of_lt (fin_len JJ k) hlt)
      have FS := hid (fin_succ JJ k hlt)
      have HP := hid hp
      have hKd := hid hK.drew
      rw [← hp] at hy
      have cs2 : wr.drew.cell? ⟨Bs, 0, none⟩ = some (.slice (some ⟨g, off, none⟩) T cap) := cs
      have hpt : (p : Int) < (T : Int) := by omega
      have hp1 : (p : Int) ≤ (T : Int) := by omega
      have hp2 : ¬ cap = p := by omega
      have hp3 : (p : Int) + 136 ≤ (cap : Int) := by omega
      clear hJs hK hp
      gi_wp2
      refine wpIn_region_text2 (r := none) [0,0,0,0,0,0,0] (fun W' => W'.cell? ⟨Bs, 0, none⟩ = some (.slice (some ⟨g, off, none⟩) T cap) ∧ W'.cell? ⟨Bn, 0, none⟩ = some (.int .i64 136)) (by kernel_rfl) (by kernel_rfl) (by kernel_rfl) ⟨cs, cn⟩ ?_
      repeat (first
        | (refine' wpT_calm (v := _) (by rfl) (fun W hW => ?_) ?_; rotate_left
           · ((try dsimp only at hW); go_simp; first | done | rfl)
           simp only [Act.put, List.setIfInBounds_toArray, List.set_cons_zero, List.set_cons_succ])
        | (refine' wpT_reads (v := _) (by rfl) ?_ ?_; rotate_left
           · (go_simp; first | done | rfl)
           simp only [Act.put, List.setIfInBounds_toArray, List.set_cons_zero, List.set_cons_succ])
        | (refine wpT_skip (by rfl) rfl ?_; simp only [Act.put, List.setIfInBounds_toArray, List.set_cons_zero, List.set_cons_succ])
        | (refine wpT_does (by rfl) (fun K hK => ?_); go_simp; refine hK _ _ ?_ ?_
           · (trivial)
           clear hK K; try simp only [Act.put, List.setIfInBounds_toArray, List.set_cons_zero, List.set_cons_succ])
        | (refine wpT_last (by rfl) (fun K hK => ?_); go_simp; refine hK _ _ ?_; clear hK K)
        | (refine wpT_nil ?_))
      have hmin : (if ((T - p : Nat) : Int) < 136 then ((T - p : Nat) : Int) else 136) = 136 := if_neg (by omega)
      rw [hmin]
      clear cs cn hmin hpt hp1
      gi_wp2
      refine hR.mono ?_
      rintro _ W3 (⟨rfl, hJ3, hk3⟩ | ⟨rfl, hJx3⟩)
      · have K3 := hid (hKd.out.trans hk3)
        have J3 := hid hJ3
        have cn3 : W3.cell? ⟨Bn, 0, none⟩ = some (.int .i64 136) := (K3.out.cell (p := ⟨Bn, 0, none⟩) (by dsimp only; omega) (by dsimp only; omega)).trans HN.out
        clear hk3 hJ3 hJn cs2 hKd
        gi_wp2
        go_roundw
        case rel => exact ⟨k + 1, p + 136, by omega, by have := HP.out; omega, by go_num, by rw [FS.out]; exact J3.out, K3.out⟩
        case measure => simp [intOf]; omega
      · clear hJn cs2 hKd
        gi_wp2
        refine bodyPost_ret (results_none rfl _ _ _) rfl ?_
        exact ⟨⟨_, rfl⟩, .inr ⟨_, trivial, hJx3⟩⟩
    · have hall := hid (fin_all JJ k (by omega))
      have hpt : ¬ ((p : Int) < (T : Int)) := by have := HT.out; omega
      have JJs := hid hJs
      clear hJs hlt hk hp
      gi_wp2
      go_end0
      exact ⟨⟨_, rfl⟩, .inl (by have := JJs.out; rw [hall.out] at this; first | exact this | exact ⟨_, rfl, this⟩)⟩

/-- Chunk itself: the list and the number are boxed; the function value captures both boxes. -/
theorem chunk_any (a : Option Addr) (len cap : Nat) (w : World) :
    Calls Try.prog 31 #[.slice a len cap, .int .i64 136] w fun e w' => e = .returned (.func (.func 44) #[] #[.pointer (some ⟨w.heap.size, 0, none⟩), .pointer (some ⟨w.heap.size + 1, 0, none⟩)]) ∧
      w' = (w.alloc (.cells #[.slice a len cap] 22)).alloc (.cells #[.int .i64 136] 3) := by
  go_enter Try.func31, Try.ntmps31
  go_wp2
  go_ret
  exact ⟨rfl, rfl⟩

/-- All blocks come, in order. -/
theorem chunk_stops (n : Nat) (hn : 1 ≤ n) (Bs Bn b g off cap T JJ : Nat) (w : World) (hT : T = 136 * JJ) (hJJ : JJ ≤ 100) (hcap : T ≤ cap) (hmx : cap ≤ maxLen) (hs1 : Bs ≠ b) (hs2 : Bs < w.heap.size) (hn1 : Bn ≠ b) (hn2 : Bn < w.heap.size)
    (hs : w.cell? ⟨Bs, 0, none⟩ = some (.slice (some ⟨g, off, none⟩) T cap)) (hnn : w.cell? ⟨Bn, 0, none⟩ = some (.int .i64 136)) :
    SeqStopsK Fence.wide n Try.prog 44 #[.pointer (some ⟨Bs, 0, none⟩), .pointer (some ⟨Bn, 0, none⟩)] (fun x : Fin JJ => #[.slice (some ⟨g, off + 136 * x.1, none⟩) 136 136]) (Keep (fun k => k = b ∨ w.heap.size ≤ k)) (fun ys => ys = List.finRange JJ) (fun _ => True) JJ w :=
  fun l J Jx W hW hJ _ hY h0 =>
    chunk1_in n hn l Bs Bn b w.heap.size g off cap T JJ hT hJJ hcap hmx J Jx hY W hs1 hs2 hn1 hn2 hW.size hJ ((hW.cell (p := ⟨Bs, 0, none⟩) hs2).trans hs) ((hW.cell (p := ⟨Bn, 0, none⟩) hn2).trans hnn) h0
end Go.Proofs.Ytpijnpapmdnceaa
