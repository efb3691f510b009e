/- Two chains that part. Law 21: awake. Law 21: awake, the walk. What a walk is told of observations, records, lists of records, and views that came in. -/
import Derived.Test.YtpijnpapmdnceaaGaf
import Derived.Test.YtpijnpapmdnceaaGai
import Derived.Test.YtpijnpapmdnceaaGaa

namespace Go.Proofs.Ytpijnpapmdnceaa
open Go Go.RowKit
def wk0 : Rc := ⟨0, 1, 0, 0, 0, 0, 0, 0, 0, 0⟩
def wk1 : Rc := ⟨1, 1, 0, 0, 0, 1, 0, 1, 0, 0⟩
def wk2 : Rc := ⟨2, 1, 0, 0, 0, 2, 0, 2, 0, 0⟩
def wkx : Rc := ⟨1, 1, 0, 0, 0, 1, 0, 2, 0, 0⟩
theorem chain_facts : gb (chn (chn (chn (List.replicate 32 0#8) wk0) wk1) wk2) 0 ≠ gb (chn (chn (chn (List.replicate 32 0#8) wk0) wkx) wk2) 0 := by decide +kernel
end Go.Proofs.Ytpijnpapmdnceaa

namespace Go.Proofs.Ytpijnpapmdnceaa
open Go Go.RowKit

def addL (L : Lg) (r : Rc) : Lg := pushL (if (L.l.length : Int) = L.ring then cutL L else L) ⟨(L.drop : Int) + (L.l.length : Int), r.t, r.c, r.o, r.e, r.n, r.m, r.a, r.b, r.d⟩
theorem addL_ring (L : Lg) (r : Rc) : (addL L r).ring = L.ring := by
  unfold addL pushL
  split <;> rfl
theorem addL_drop (L : Lg) (r : Rc) : (addL L r).drop ≤ L.drop + 1 := by
  unfold addL pushL
  split
  · exact Nat.le_refl _
  · exact Nat.le_succ _
theorem addL_len (L : Lg) (r : Rc) : (addL L r).l.length ≤ L.l.length + 1 := by
  unfold addL pushL
  split
  · show ((L.l.eraseIdx 0) ++ [_]).length ≤ _
    rw [List.length_append, List.length_eraseIdx]
    split <;> simp <;> omega
  · show (L.l ++ [_]).length ≤ _
    simp
/-- The log behind so many records. -/
def lgw : Nat → Lg
  | 0 => newL 2
  | i + 1 => addL (lgw i) ⟨0, 1, 0, 0, 0, (i : Int), 0, (i : Int), 0, 0⟩
theorem lgw_ok : ∀ i, (lgw i).ring = 2 ∧ (lgw i).drop ≤ i ∧ (lgw i).l.length ≤ i
  | 0 => ⟨rfl, Nat.le_refl _, Nat.le_refl _⟩
  | i + 1 => by
    obtain ⟨h1, h2, h3⟩ := lgw_ok i
    have a := addL_drop (lgw i) ⟨0, 1, 0, 0, 0, (i : Int), 0, (i : Int), 0, 0⟩
    have b := addL_len (lgw i) ⟨0, 1, 0, 0, 0, (i : Int), 0, (i : Int), 0, 0⟩
    exact ⟨(addL_ring _ _).trans h1, by show (addL _ _).drop ≤ _; omega, by show (addL _ _).l.length ≤ _; omega⟩
theorem lgw1 : lgw 1 = ⟨2, [wk0], zero32, chn zero32 wk0, 0⟩ := by
  unfold lgw addL
  rw [if_neg (by decide)]
  rfl
theorem lgw2 : lgw 2 = ⟨2, [wk0, wk1], zero32, chn (chn zero32 wk0) wk1, 0⟩ := by
  unfold lgw
  rw [lgw1]
  unfold addL
  rw [if_neg (by decide)]
  rfl
theorem lgw3 : lgw 3 = ⟨2, [wk1, wk2], chn zero32 wk0, chn (chn (chn zero32 wk0) wk1) wk2, 1⟩ := by
  unfold lgw
  rw [lgw2]
  unfold addL
  rw [if_pos (by decide)]
  rfl
theorem ver_awake : ver 1 (chn zero32 wk0) [wk1, wk2] (chn (chn (chn zero32 wk0) wk1) wk2) = 0 := by
  unfold ver
  rw [if_neg (by rw [chn_len, chn_len]; decide), if_neg (by simp), if_neg (by decide), if_neg (fun h => h rfl)]
theorem ver_other : ver 1 (chn zero32 wk0) [wkx, wk2] (chn (chn (chn zero32 wk0) wk1) wk2) = 19 := by
  unfold ver
  rw [if_neg (by rw [chn_len, chn_len]; decide), if_neg (by simp), if_neg (by decide), if_pos (fun h => chain_facts (by
    have h2 : chn (chn (chn zero32 wk0) wkx) wk2 = chn (chn (chn zero32 wk0) wk1) wk2 := h
    exact congrArg (fun l => gb l 0) h2.symm))]
end Go.Proofs.Ytpijnpapmdnceaa

namespace Go.Proofs.Ytpijnpapmdnceaa
open Go Go.RowKit

set_option maxRecDepth 10000 in
set_option maxHeartbeats 1000000 in
theorem aawake_any (w : World) :
    Calls Try.prog 24 #[] w fun e w' => e = .returned (.bool true) ∧ Keep (fun _ => False) w w' := by
  go_enter Try.func24, Try.ntmps24
  go_wp2_with fail
  refine (anew_any 2 w).mono ?_
  rintro _ w1 ⟨b, rfl, hb, hL, k1⟩
  have L1 := hid hL
  have K1 := hid k1
  clear hL k1
  go_wp2_with fail
  go_loopw [2] (fun iv wr => ∃ (i : Nat) (L : Lg) (v : Value), i ≤ 3 ∧ Hid (L = lgw i) ∧ LogAt wr b v L ∧ (∀ k, v.ownBlock = some k → w.heap.size ≤ k) ∧ Keep (fun _ => False) w wr ∧ iv = .int .i64 i) (fun iv _ => 3 - (intOf iv).toNat)
  case atStart => exact ⟨0, newL 2, _, by omega, hid rfl, L1.out, fun k hk => (by cases hk), K1.out, rfl⟩
  case round =>
    obtain ⟨i, L, v, hi, HL, hA, hO, hK, rfl⟩ := hrel
    have HA := hid hA
    have HO := hid hO
    have KK := hid hK
    clear hA hO hK
    by_cases hlt : i < 3
    · have hli : (i : Int) < 3 := by omega
      have ok := lgw_ok i
      rw [← HL.out] at ok
      obtain ⟨ok1, ok2, ok3⟩ := ok
      have OK := hid (And.intro ok1 (And.intro ok2 ok3))
      clear ok1 ok2 ok3
      go_wp2_with fail
      refine (aadd_any HA.out (by rw [OK.out.1]; decide) (by have := OK.out.2.1; omega) (by have := OK.out.2.2; omega) 1 0 0 0 i 0 i 0 0).mono ?_
      rintro _ w2 ⟨v2, rfl, hA2, hO2, k2⟩
      have HA2 : Hid (LogAt w2 b v2 (addL L ⟨0, 1, 0, 0, 0, (i : Int), 0, (i : Int), 0, 0⟩)) := hid hA2
      have KE := hid (KK.out.then k2 (fun k hk => hk.elim (fun h => .inr (by omega)) (fun h => .inr (HO.out k h))))
      have HO2 := hid hO2
      clear hA2 hO2 k2
      go_wp2_with fail
      go_roundw
      case rel => exact ⟨i + 1, _, v2, by omega, hid (by rw [HL.out]; rfl), HA2.out, fun k hk => (HO2.out k hk).elim (HO.out k) (fun h => Nat.le_trans KK.out.size h), KE.out, by go_num⟩
      case measure => simp [intOf]; omega
    · obtain rfl : i = 3 := by omega
      have e3 : L = ⟨2, [wk1, wk2], chn zero32 wk0, chn (chn (chn zero32 wk0) wk1) wk2, 1⟩ := HL.out.trans lgw3
      obtain ⟨BS, hBS⟩ : ∃ s, chn zero32 wk0 = s := ⟨_, rfl⟩
      obtain ⟨HS, hHS⟩ : ∃ s, chn (chn BS wk1) wk2 = s := ⟨_, rfl⟩
      have va := ver_awake
      have vo := ver_other
      rw [hBS, hHS] at va vo e3
      have HVA := hid va
      have HVO := hid vo
      have HE3 := hid e3
      clear va vo hBS hHS e3
      go_wp2_with fail
      have hle : L.l.length ≤ 100000 := by rw [HE3.out]; show 2 ≤ 100000; omega
      refine (aview_any HA.out hle).mono ?_
      rintro _ w3 ⟨v3, rfl, m3, f3, k3⟩
      rw [HE3.out] at m3
      have EV : viewV L.drop L.base v3 L.head = viewV 1 BS v3 HS := by rw [HE3.out]; rfl
      rw [EV]
      obtain ⟨a3, hv3⟩ := m3.form
      subst hv3
      have M3 : Hid (MadeR w3 (.slice a3 2 2) [wk1, wk2]) := hid m3
      have F3 : Hid (∀ k, (Value.slice a3 2 2).ownBlock = some k → wr.heap.size ≤ k) := hid f3
      have K3 := hid (KK.out.trans k3)
      clear m3 f3 k3 EV hle
      have R3 := M3.out.reads
      obtain ⟨g, off, hg⟩ := R3.addr (by decide)
      subst hg
      have h0 : off = 0 ∧ w3.frozen? ⟨g, 7, none⟩ = false := by
        obtain ⟨a, c, hv, o⟩ := M3.out
        rcases o.2 with ⟨hh, h0⟩ | ⟨g', cap, cur, hh, _, hg, _⟩
        · exact absurd h0 (by decide)
        · simp only [Value.slice.injEq] at hv hh
          have e1 := hv.1.trans hh.1
          simp only [Option.some.injEq, Addr.mk.injEq] at e1
          obtain ⟨e1, e2, _⟩ := e1
          subst e1
          exact ⟨e2, frozen_of_row w3 g 7 _ _ hg⟩
      obtain ⟨rfl, fz⟩ := h0
      have gw : g < w3.heap.size := by
        have := cells_at R3 0 (by decide) wk1 rfl 0 _ rfl
        exact World.block_lt_of_cell? _ _ this
      have gn : w.heap.size ≤ g := Nat.le_trans KK.out.size (F3.out g rfl)
      obtain ⟨B, hB⟩ : ∃ B, bya BS = B := ⟨_, rfl⟩
      obtain ⟨E, hE⟩ : ∃ B, bya HS = B := ⟨_, rfl⟩
      have KA : Keep (fun _ => False) w3 (w3.alloc (.cells #[.int .i64 1, .string B, .slice (some ⟨g, 0, none⟩) 2 2, .string E] 45)) := (Keep.refl _ _).alloc _
      have ver1 : Hid (Calls Try.prog 25 #[.agg #[.int .i64 1, .string B, .slice (some ⟨g, 0, none⟩) 2 2, .string E]] (w3.alloc (.cells #[.int .i64 1, .string B, .slice (some ⟨g, 0, none⟩) 2 2, .string E] 45)) fun e w' => e = .returned (.int .i64 0) ∧ Keep (fun _ => False) (w3.alloc (.cells #[.int .i64 1, .string B, .slice (some ⟨g, 0, none⟩) 2 2, .string E] 45)) w') := hid (by
        have := verify_any (R3.keep KA (fun _ _ h => h)) 1 BS HS
        unfold viewV at this
        rw [hB, hE, HVA.out] at this
        exact this)
      have HB := hid hB
      have HEE := hid hE
      have KA2 := hid KA
      have SA : (w3.alloc (.cells #[.int .i64 1, .string B, .slice (some ⟨g, 0, none⟩) 2 2, .string E] 45)).heap.size = w3.heap.size + 1 := World.size_alloc _ _
      have SA2 := hid SA
      have rowA := hid (heap_alloc_new w3 (.cells #[.int .i64 1, .string B, .slice (some ⟨g, 0, none⟩) 2 2, .string E] 45))
      have HR3 := hid R3
      have FZ := hid ((KA.frozen (p := ⟨g, 7, none⟩) gw (fun h => h)).trans fz)
      unfold viewV
      rw [hB, hE]
      clear KA SA hB hE R3 fz
      go_wp2_with fail
      refine ver1.out.mono ?_
      rintro _ w4 ⟨rfl, k4⟩
      have R4 := (HR3.out.keep KA2.out (fun _ _ h => h)).keep k4 (fun _ _ h => h)
      have K4 := hid (Keep.trans (K3.out.trans KA2.out) k4)
      have gw4 : g < w4.heap.size := by have := KA2.out.size; have := k4.size; omega
      have row4 := (k4.block _ (by rw [SA2.out]; exact Nat.lt_succ_self _) (fun h => h)).trans rowA.out
      have FZ4 := (k4.frozen (p := ⟨g, 7, none⟩) (by have := SA2.out; dsimp only; omega) (fun h => h)).trans FZ.out
      have vq2 : w4.cell? ⟨w3.heap.size, 2, none⟩ = some (.slice (some ⟨g, 0, none⟩) 2 2) := by rw [cell_of_row _ _ 2 _ _ _ row4]; rfl
      have vq0 : w4.cell? ⟨w3.heap.size, 0, none⟩ = some (.int .i64 1) := by rw [cell_of_row _ _ 0 _ _ _ row4]; rfl
      have vq1 : w4.cell? ⟨w3.heap.size, 1, none⟩ = some (.string B) := by rw [cell_of_row _ _ 1 _ _ _ row4]; rfl
      have vq3 : w4.cell? ⟨w3.heap.size, 3, none⟩ = some (.string E) := by rw [cell_of_row _ _ 3 _ _ _ row4]; rfl
      have gv : g ≠ w3.heap.size := by omega
      have cx := cells_at R4 0 (by decide) wk1 rfl
      have cy := cells_at R4 1 (by decide) wk2 rfl
      have x0 : w4.cell? ⟨g, 0, none⟩ = some (.int .i64 1) := cx 0 _ rfl
      have x1 : w4.cell? ⟨g, 1, none⟩ = some (.int .i64 1) := cx 1 _ rfl
      have x2 : w4.cell? ⟨g, 2, none⟩ = some (.int .i64 0) := cx 2 _ rfl
      have x3 : w4.cell? ⟨g, 3, none⟩ = some (.int .i64 0) := cx 3 _ rfl
      have x4 : w4.cell? ⟨g, 4, none⟩ = some (.int .i64 0) := cx 4 _ rfl
      have x5 : w4.cell? ⟨g, 5, none⟩ = some (.int .i64 1) := cx 5 _ rfl
      have x6 : w4.cell? ⟨g, 6, none⟩ = some (.int .i64 0) := cx 6 _ rfl
      have x7 : w4.cell? ⟨g, 7, none⟩ = some (.int .i64 1) := cx 7 _ rfl
      have x8 : w4.cell? ⟨g, 8, none⟩ = some (.int .i64 0) := cx 8 _ rfl
      have x9 : w4.cell? ⟨g, 9, none⟩ = some (.int .i64 0) := cx 9 _ rfl
      have y5 : w4.cell? ⟨g, 15, none⟩ = some (.int .i64 2) := cy 5 _ rfl
      have R5 : ReadR (w4.setCell ⟨g, 7, none⟩ (.int .i64 2)) (.slice (some ⟨g, 0, none⟩) 2 2) [wkx, wk2] := by
        have k : Keep (fun k => k = g) w4 (w4.setCell ⟨g, 7, none⟩ (.int .i64 2)) := (Keep.refl _ _).setOwn _
        refine .inr ⟨g, 0, 2, rfl, Nat.lt_of_lt_of_le gw4 k.size, by decide, fun j u hu => ?_⟩
        have e : flatR [wkx, wk2] = (flatR [wk1, wk2]).set 7 (.int .i64 2) := rfl
        rw [e, List.getElem?_set] at hu
        rw [Nat.zero_add]
        by_cases h7 : 7 = j
        · subst h7
          rw [if_pos rfl, if_pos (by decide)] at hu
          rw [← hu]
          exact World.cell?_setCell_same' _ _ _ (by rw [x7]; rfl)
        · rw [if_neg h7] at hu
          rw [World.cell?_setCell_other _ _ _ _ (by first | (simp; done) | (simp; omega))]
          rcases R4 with ⟨_, _, _, h0⟩ | ⟨g', off', c', hv, _, _, hc⟩
          · cases h0
          · simp only [Value.slice.injEq, Option.some.injEq, Addr.mk.injEq] at hv
            obtain ⟨⟨rfl, rfl, _⟩, _⟩ := hv
            have := hc j u hu
            rwa [Nat.zero_add] at this
      have HR5 := hid R5
      have K5 := hid (K4.out.setCell (p := ⟨g, 7, none⟩) (.inr gn) (.int .i64 2))
      clear cx cy R4 k4 row4 R5
      go_wp2_with fail
      obtain ⟨W5, hW5⟩ : ∃ V, w4.setCell ⟨g, 7, none⟩ (.int .i64 2) = V := ⟨_, rfl⟩
      have vz2 : W5.cell? ⟨w3.heap.size, 2, none⟩ = some (.slice (some ⟨g, 0, none⟩) 2 2) := by rw [← hW5, World.cell?_setCell_other _ _ _ _ (by first | (simp; done) | (simp; omega))]; exact vq2
      rw [hW5] at HR5 K5 ⊢
      have ver2 : Hid (Calls Try.prog 25 #[.agg #[.int .i64 1, .string B, .slice (some ⟨g, 0, none⟩) 2 2, .string E]] W5 fun e w' => e = .returned (.int .i64 19) ∧ Keep (fun _ => False) W5 w') := hid (by
        have := verify_any HR5.out 1 BS HS
        unfold viewV at this
        rw [HB.out, HEE.out, HVO.out] at this
        exact this)
      clear hW5 x0 x1 x2 x3 x4 x5 x6 x7 x8 x9 y5 vq0 vq1 vq2 vq3 FZ4 gw4
      refine ver2.out.mono ?_
      rintro _ w6 ⟨rfl, k6⟩
      have K6 := hid (K5.out.trans k6)
      have R6 := HR5.out.keep k6 (fun _ _ h => h)
      have cx := cells_at R6 0 (by decide) wkx rfl
      have x0 : w6.cell? ⟨g, 0, none⟩ = some (.int .i64 1) := cx 0 _ rfl
      have x1 : w6.cell? ⟨g, 1, none⟩ = some (.int .i64 1) := cx 1 _ rfl
      have x2 : w6.cell? ⟨g, 2, none⟩ = some (.int .i64 0) := cx 2 _ rfl
      have x3 : w6.cell? ⟨g, 3, none⟩ = some (.int .i64 0) := cx 3 _ rfl
      have x4 : w6.cell? ⟨g, 4, none⟩ = some (.int .i64 0) := cx 4 _ rfl
      have x5 : w6.cell? ⟨g, 5, none⟩ = some (.int .i64 1) := cx 5 _ rfl
      have x6 : w6.cell? ⟨g, 6, none⟩ = some (.int .i64 0) := cx 6 _ rfl
      have x7 : w6.cell? ⟨g, 7, none⟩ = some (.int .i64 2) := cx 7 _ rfl
      have x8 : w6.cell? ⟨g, 8, none⟩ = some (.int .i64 0) := cx 8 _ rfl
      have x9 : w6.cell? ⟨g, 9, none⟩ = some (.int .i64 0) := cx 9 _ rfl
      have vz := (k6.cell (p := ⟨w3.heap.size, 2, none⟩) (World.block_lt_of_cell? _ _ vz2) (fun h => h)).trans vz2
      clear cx R6 k6 vz2
      go_wp2_with fail
      refine (bytes_any wkx _).mono ?_
      rintro _ w7 ⟨a7, rfl, r7, f7, k7⟩
      have K7 := hid (K6.out.trans k7)
      clear r7 f7 k7
      go_wp2_with fail
      go_ret
      exact ⟨rfl, K7.out⟩
end Go.Proofs.Ytpijnpapmdnceaa

namespace Go.Proofs.Ytpijnpapmdnceaa
open Go Go.ChangeShapes Go.WideShapes Go.Deep Go.RowKit

instance : Inhabited Rc := ⟨rc0⟩
def Ok64 (n : Int) : Prop := -9223372036854775808 ≤ n ∧ n ≤ 9223372036854775807
def WfR (r : Rc) : Prop := ∀ n ∈ r.nums, Ok64 n
theorem ok64_of {n : Int} (h : (Lit.int .i64 n).wf = true) : Ok64 n := by
  simp only [Lit.wf, Bool.and_eq_true, decide_eq_true_eq] at h
  exact ⟨Int.le_trans (by decide) h.1, Int.le_trans h.2 (by decide)⟩
theorem wf_of64 {n : Int} (h : Ok64 n) : (Lit.int .i64 n).wf = true := by
  simp only [Lit.wf, Bool.and_eq_true, decide_eq_true_eq]
  exact ⟨Int.le_trans (by decide) h.1, Int.le_trans h.2 (by decide)⟩

section
variable {H : Type} {enc : TypeId × Value → H} {P : Program} {w : World} {base : Nat} {spare : Nat → Bool} {held : Bool}

/-- A struct of numbers. -/
theorem open_flat {t : TypeId} {fs : Array Field} {fuel : Nat} {cs : List Value} {x : DataW H × List MemPlace} (ht : P.underlying t = some (.struct fs)) (hone : oneCellFields P fs = true) (hC : P.cellsOf t = fs.size)
    (hk : ∀ (j : Nat) (f : Field), fs[j]? = some f → P.underlying f.type = some (.int .i64)) (h : DataW.trod enc P w base spare held fuel t cs = some x) :
    cs.length = fs.size ∧ ∀ j, j < fs.size → ∃ n, cs[j]? = some (.int .i64 n) ∧ Ok64 n := by
  obtain ⟨ys, n', hn', hy, hlen, hyl, hf⟩ := DataW.trod_struct ht h
  refine ⟨by rw [hlen, hC], fun j hj => ?_⟩
  have hfj : fs[j]? = some fs[j] := Array.getElem?_eq_getElem hj
  obtain ⟨ho, hk1⟩ := hone_of hone j _ hfj
  have h1 := hf j _ hfj
  rw [ho, hk1] at h1
  have hjl : j < cs.length := by rw [hlen, hC]; exact hj
  have hone' : (cs.drop j).take 1 = [cs[j]] := by
    rw [List.drop_eq_getElem_cons hjl]
    rfl
  rw [hone'] at h1
  have hys : ys[j]? = some (ys[j]'(by omega)) := List.getElem?_eq_getElem (by omega)
  obtain ⟨z, hz1, _, hw⟩ := DataW.trod_int (hk j _ hfj) (h1.trans hys)
  refine ⟨z, ?_, ok64_of hw⟩
  rw [List.getElem?_eq_getElem hjl]
  simpa using hz1
theorem list6 {α : Type} {l : List α} (h : l.length = 6) : ∃ a b c d e f, l = [a, b, c, d, e, f] := by
  match l, h with
  | [a, b, c, d, e, f], _ => exact ⟨a, b, c, d, e, f, rfl⟩
theorem list4 {α : Type} {l : List α} (h : l.length = 4) : ∃ a b c d, l = [a, b, c, d] := by
  match l, h with
  | [a, b, c, d], _ => exact ⟨a, b, c, d, rfl⟩
theorem list10 {α : Type} {l : List α} (h : l.length = 10) : ∃ a b c d e f g h i j, l = [a, b, c, d, e, f, g, h, i, j] := by
  match l, h with
  | [a, b, c, d, e, f, g, h, i, j], _ => exact ⟨a, b, c, d, e, f, g, h, i, j, rfl⟩
end

section
variable {H : Type} {enc : TypeId × Value → H} {w : World} {base : Nat} {spare : Nat → Bool} {held : Bool}

theorem ui : Try.prog.underlying 3 = some (.int .i64) := by kernel_rfl
theorem uie : Try.prog.underlying 38 = some (.int .i64) := by kernel_rfl
theorem trod_obs {fuel : Nat} {cs : List Value} {x : DataW H × List MemPlace} (h : DataW.trod enc Try.prog w base spare held fuel 40 cs = some x) :
    ∃ t c o e n m : Int, cs = [.int .i64 t, .int .i64 c, .int .i64 o, .int .i64 e, .int .i64 n, .int .i64 m] ∧ Ok64 t ∧ Ok64 c ∧ Ok64 o ∧ Ok64 e ∧ Ok64 n ∧ Ok64 m := by
  obtain ⟨hl, hc⟩ := open_flat Try.underlying40 (by kernel_rfl) (by kernel_rfl) (by
    intro j f hf
    match j, hf with
    | 0, hf => cases hf; exact ui
    | 1, hf => cases hf; exact ui
    | 2, hf => cases hf; exact ui
    | 3, hf => cases hf; exact uie
    | 4, hf => cases hf; exact ui
    | 5, hf => cases hf; exact ui) h
  have hl : cs.length = 6 := hl
  obtain ⟨a, b, c, d, e, f, rfl⟩ := list6 hl
  obtain ⟨n0, e0, k0⟩ := hc 0 (by decide)
  obtain ⟨n1, e1, k1⟩ := hc 1 (by decide)
  obtain ⟨n2, e2, k2⟩ := hc 2 (by decide)
  obtain ⟨n3, e3, k3⟩ := hc 3 (by decide)
  obtain ⟨n4, e4, k4⟩ := hc 4 (by decide)
  obtain ⟨n5, e5, k5⟩ := hc 5 (by decide)
  simp at e0 e1 e2 e3 e4 e5
  exact ⟨n0, n1, n2, n3, n4, n5, by rw [e0, e1, e2, e3, e4, e5], k0, k1, k2, k3, k4, k5⟩
theorem trod_rec {fuel : Nat} {cs : List Value} {x : DataW H × List MemPlace} (h : DataW.trod enc Try.prog w base spare held fuel 42 cs = some x) : ∃ r : Rc, cs = r.cells ∧ WfR r := by
  obtain ⟨ys, n', hn', hy, hlen, hyl, hf⟩ := DataW.trod_struct Try.underlying42 h
  have hC : Try.prog.cellsOf 42 = 10 := by kernel_rfl
  have c1 : Try.prog.cellsOf 3 = 1 := by kernel_rfl
  have c6 : Try.prog.cellsOf 40 = 6 := by kernel_rfl
  rw [hC] at hlen
  obtain ⟨a, b, c, d, e, f, g, i, j, k, rfl⟩ := list10 hlen
  have hys : ys.length = 5 := hyl
  have g0 : DataW.trod enc Try.prog w base spare held n' 3 (([a, b, c, d, e, f, g, i, j, k].drop 0).take (Try.prog.cellsOf 3)) = ys[0]? := hf 0 _ rfl
  have g1 : DataW.trod enc Try.prog w base spare held n' 40 (([a, b, c, d, e, f, g, i, j, k].drop 1).take (Try.prog.cellsOf 40)) = ys[1]? := hf 1 _ rfl
  have g2 : DataW.trod enc Try.prog w base spare held n' 3 (([a, b, c, d, e, f, g, i, j, k].drop 7).take (Try.prog.cellsOf 3)) = ys[2]? := hf 2 _ rfl
  have g3 : DataW.trod enc Try.prog w base spare held n' 3 (([a, b, c, d, e, f, g, i, j, k].drop 8).take (Try.prog.cellsOf 3)) = ys[3]? := hf 3 _ rfl
  have g4 : DataW.trod enc Try.prog w base spare held n' 3 (([a, b, c, d, e, f, g, i, j, k].drop 9).take (Try.prog.cellsOf 3)) = ys[4]? := hf 4 _ rfl
  rw [List.getElem?_eq_getElem (by omega)] at g0 g1 g2 g3 g4
  rw [c1] at g0 g2 g3 g4
  rw [c6] at g1
  obtain ⟨z0, e0, _, w0⟩ := DataW.trod_int Try.underlying3 g0
  obtain ⟨t1, t2, t3, t4, t5, t6, e1, k1, k2, k3, k4, k5, k6⟩ := trod_obs g1
  obtain ⟨z2, e2, _, w2⟩ := DataW.trod_int Try.underlying3 g2
  obtain ⟨z3, e3, _, w3⟩ := DataW.trod_int Try.underlying3 g3
  obtain ⟨z4, e4, _, w4⟩ := DataW.trod_int Try.underlying3 g4
  simp at e0 e1 e2 e3 e4
  refine ⟨⟨z0, t1, t2, t3, t4, t5, t6, z2, z3, z4⟩, by simp [Rc.cells, Rc.nums, e0, e1, e2, e3, e4], fun n hn => ?_⟩
  have q0 := ok64_of w0
  have q2 := ok64_of w2
  have q3 := ok64_of w3
  have q4 := ok64_of w4
  simp only [Rc.nums, List.mem_cons, List.not_mem_nil, or_false] at hn
  rcases hn with rfl | rfl | rfl | rfl | rfl | rfl | rfl | rfl | rfl | rfl <;> assumption
/-- An observation by value. -/
theorem open_obs {b0 : Nat} {r : Reach} {v : Value} {d : DataW H} {ps : List MemPlace} (hv : Value.okWide Try.prog w r b0 40 v) (h : DataW.Trod enc Try.prog w base spare held 40 v d ps) :
    ∃ t c o e n m : Int, v = .agg #[.int .i64 t, .int .i64 c, .int .i64 o, .int .i64 e, .int .i64 n, .int .i64 m] ∧ Ok64 t ∧ Ok64 c ∧ Ok64 o ∧ Ok64 e ∧ Ok64 n ∧ Ok64 m := by
  obtain ⟨cs, rfl, _⟩ := okWide_struct Try.underlying40 hv
  obtain ⟨fuel, hf⟩ := h
  obtain ⟨t, c, o, e, n, m, hc, k⟩ := trod_obs hf
  refine ⟨t, c, o, e, n, m, ?_, k⟩
  have h2 : cs.toList = _ := hc
  rw [← h2]
/-- A record by value. -/
theorem open_rec {b0 : Nat} {r : Reach} {v : Value} {d : DataW H} {ps : List MemPlace} (hv : Value.okWide Try.prog w r b0 42 v) (h : DataW.Trod enc Try.prog w base spare held 42 v d ps) :
    ∃ x : Rc, v = x.agg ∧ WfR x := by
  obtain ⟨cs, rfl, _⟩ := okWide_struct Try.underlying42 hv
  obtain ⟨fuel, hf⟩ := h
  obtain ⟨x, hc, k⟩ := trod_rec hf
  refine ⟨x, ?_, k⟩
  have h2 : cs.toList = x.cells := hc
  have h3 : cs = x.cells.toArray := by rw [← h2]
  rw [h3]
  rfl
/-- A list of records. -/
theorem trod_recs {fuel : Nat} {cs : List Value} {x : DataW H × List MemPlace} (h : DataW.trod enc Try.prog w base spare held fuel 32 cs = some x) :
    ∃ v l, cs = [v] ∧ ReadR w v l ∧ (∀ r ∈ l, WfR r) ∧ ∃ a n c, v = .slice a n c ∧ n ≤ c := by
  rcases open_slice Try.underlying32 h with ⟨rfl, _⟩ | ⟨a, len, cap, m, n, D, Pl, rfl, hb, hl, hm, hmm, hx, hi⟩
  · exact ⟨_, [], rfl, .inl ⟨_, _, rfl, rfl⟩, fun r hr => absurd hr (List.not_mem_nil), _, _, _, rfl, Nat.le_refl _⟩
  · have hC : Try.prog.cellsOf 42 = 10 := by kernel_rfl
    have hlm : len ≤ m := by rw [hmm]; split <;> omega
    have each : ∀ i, i < len → ∃ r : Rc, WfR r ∧ ∀ j u, r.cells[j]? = some u → w.cell? (a.add (i * 10 + j)) = some u := by
      intro i hil
      obtain ⟨cs', hc, ht'⟩ := hi i (by omega)
      obtain ⟨r, rfl, hw⟩ := trod_rec ht'
      rw [hC] at hc
      obtain ⟨_, hcl, hat⟩ := World.cells?_some hc
      refine ⟨r, hw, fun j u hu => ?_⟩
      have hj : j < 10 := (List.getElem?_eq_some_iff.1 hu).1
      have hcell := hat j hj
      rw [Go.Deep.add_add, hu] at hcell
      exact hcell
    obtain ⟨f, hf⟩ := choose_lt each
    by_cases h0 : len = 0
    · subst h0
      exact ⟨_, [], rfl, .inl ⟨_, _, rfl, rfl⟩, fun r hr => absurd hr (List.not_mem_nil), _, _, _, rfl, hl⟩
    · have hc0 := (hf 0 (by omega)).2 0 (.int .i64 (f 0).s) rfl
      have hsp : a.spot = none := by
        rw [show 0 * 10 + 0 = 0 by omega] at hc0
        unfold Addr.add at hc0
        exact cell_spot (by simpa using hc0)
      obtain ⟨g, off, sp⟩ := a
      cases hsp
      have hlen : ((List.range len).map f).length = len := by simp
      refine ⟨_, (List.range len).map f, rfl, .inr ⟨g, off, cap, by rw [hlen], ?_, by rw [hlen]; omega, fun j u hu => ?_⟩, fun r hr => ?_, _, _, _, rfl, hl⟩
      · have := World.block_lt_of_cell? _ _ hc0
        rw [add_off] at this
        exact this
      · have hj : j < len * 10 := by
          have := (List.getElem?_eq_some_iff.1 hu).1
          rwa [flatR_length, hlen] at this
        have e : j = j / 10 * 10 + j % 10 := by omega
        have hjl : j / 10 < len := by omega
        rw [e, flatR_get _ (j / 10) (j % 10) (by rw [hlen]; exact hjl) (by omega)] at hu
        have h2 := (hf (j / 10) hjl).2 (j % 10) u (by simpa using hu)
        rw [add_off] at h2
        rw [e]
        exact h2
      · simp only [List.mem_map, List.mem_range] at hr
        obtain ⟨i, hi, rfl⟩ := hr
        exact (hf i hi).1
theorem open_recs {b0 : Nat} {r : Reach} {v : Value} {d : DataW H} {ps : List MemPlace} (hv : Value.okWide Try.prog w r b0 32 v) (h : DataW.Trod enc Try.prog w base spare held 32 v d ps) :
    ∃ l, ReadR w v l ∧ (∀ r ∈ l, WfR r) := by
  obtain ⟨a, n, c, rfl⟩ := okWide_slice Try.underlying32 hv
  obtain ⟨fuel, hf⟩ := h
  obtain ⟨v', l, e, hr, hw, _⟩ := trod_recs hf
  simp [Value.cells] at e
  subst e
  exact ⟨l, hr, hw⟩
theorem bytes_text (s : ByteArray) : ∃ l : List B8, bya l = s := by
  refine ⟨s.data.toList.map (·.toBitVec), ?_⟩
  apply ByteArray.ext
  simp [bya, Function.comp_def]
/-- A view by value. -/
theorem open_view {b0 : Nat} {r : Reach} {v : Value} {d : DataW H} {ps : List MemPlace} (hv : Value.okWide Try.prog w r b0 45 v) (h : DataW.Trod enc Try.prog w base spare held 45 v d ps) :
    ∃ (n : Int) (b e : List B8) (u : Value) (l : List Rc), v = viewV n b u e ∧ Ok64 n ∧ ReadR w u l ∧ (∀ r ∈ l, WfR r) := by
  obtain ⟨cs, rfl, _⟩ := okWide_struct Try.underlying45 hv
  obtain ⟨fuel, hf⟩ := h
  obtain ⟨ys, n', hn', hy, hlen, hyl, hf⟩ := DataW.trod_struct Try.underlying45 hf
  have hC : Try.prog.cellsOf 45 = 4 := by kernel_rfl
  have c1 : Try.prog.cellsOf 3 = 1 := by kernel_rfl
  have c2 : Try.prog.cellsOf 9 = 1 := by kernel_rfl
  have c3 : Try.prog.cellsOf 32 = 1 := by kernel_rfl
  rw [hC] at hlen
  have hcs : ∃ a b c d, cs = #[a, b, c, d] := by
    obtain ⟨a, b, c, d, e⟩ := list4 (l := cs.toList) hlen
    exact ⟨a, b, c, d, by rw [← Array.toArray_toList (xs := cs), e]⟩
  obtain ⟨a, b, c, d, rfl⟩ := hcs
  have hys : ys.length = 4 := hyl
  have g0 : DataW.trod enc Try.prog w base spare held n' 3 (([a, b, c, d].drop 0).take (Try.prog.cellsOf 3)) = ys[0]? := hf 0 _ rfl
  have g1 : DataW.trod enc Try.prog w base spare held n' 9 (([a, b, c, d].drop 1).take (Try.prog.cellsOf 9)) = ys[1]? := hf 1 _ rfl
  have g2 : DataW.trod enc Try.prog w base spare held n' 32 (([a, b, c, d].drop 2).take (Try.prog.cellsOf 32)) = ys[2]? := hf 2 _ rfl
  have g3 : DataW.trod enc Try.prog w base spare held n' 9 (([a, b, c, d].drop 3).take (Try.prog.cellsOf 9)) = ys[3]? := hf 3 _ rfl
  rw [List.getElem?_eq_getElem (by omega)] at g0 g1 g2 g3
  rw [c1] at g0
  rw [c2] at g1 g3
  rw [c3] at g2
  obtain ⟨z0, e0, _, w0⟩ := DataW.trod_int Try.underlying3 g0
  obtain ⟨s1, e1, _⟩ := DataW.trod_string Try.underlying9 g1
  obtain ⟨u, l, e2, hr, hw, _⟩ := trod_recs g2
  obtain ⟨s3, e3, _⟩ := DataW.trod_string Try.underlying9 g3
  simp [Value.cells] at e0 e1 e2 e3
  subst e0 e1 e2 e3
  obtain ⟨b1, rfl⟩ := bytes_text s1
  obtain ⟨b3, rfl⟩ := bytes_text s3
  exact ⟨z0, b1, b3, _, l, rfl, ok64_of w0, hr, hw⟩
end
end Go.Proofs.Ytpijnpapmdnceaa
