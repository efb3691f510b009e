/- The walks of chapter 27's reference: what begins when, and how much is whose. -/
import Derived.Test.YthnocalnlonniaaFjC
namespace Go.Proofs.Ythnocalnlonniaa
open Go Go.RowKit

/-- Does a slot of the domain begin? -/
def stF (s : List (Int × Int)) (dom : Int) (p : Int × Bool) : Bool := p.2 && ((s.getD p.1.toNat (0, 0)).1 == dom)
def stO (s : List (Int × Int)) (dom : Int) : List Bool := (ownOf (entsOf s)).map (stF s dom)

theorem stO_len (s : List (Int × Int)) (dom : Int) : ((stO s dom).length : Int) = cyc s := by rw [stO, List.length_map]; exact own_len_cyc s

theorem stO_is (s : List (Int × Int)) (dom : Int) (k : Nat) (hk : (k : Int) < cyc s) : (stO s dom).getD k false = true ↔ Starts s dom k := by
  obtain ⟨e, he, h1, h2, h3⟩ := own_is s k hk
  have hm := entsOf_mem he
  have hd : (s.getD e.n (0, 0)).1 = e.dom := by rw [List.getD_eq_getElem?_getD, hm.2.2.1]; rfl
  have hv : (stO s dom).getD k false = (decide ((k : Int) = e.at_) && (e.dom == dom)) := by
    rw [stO, List.getD_eq_getElem?_getD, List.getElem?_map, h3]
    show stF s dom ((e.n : Int), decide ((k : Int) = e.at_)) = _
    unfold stF
    dsimp only
    rw [Int.toNat_natCast, hd]
  rw [hv, Bool.and_eq_true, decide_eq_true_eq, beq_iff_eq]
  constructor
  · rintro ⟨a, b⟩
    exact ⟨e, he, a.symm, b⟩
  · rintro ⟨g, hg, a, b⟩
    have hgm := entsOf_mem hg
    have : e = g := chain_uniq (ents_chain (s.take 16) 0 0) he hg (fun x hx => (entsOf_mem (s := s) hx).2.2.2.1) (k := k) ⟨h1, h2⟩ ⟨by omega, by have := hgm.2.2.2.1; omega⟩
    subst this
    exact ⟨a.symm, b⟩

theorem shK_stop (s : List (Int × Int)) (dom : Int) : ∀ j, shK s dom (16 + j) = shK s dom 16
  | 0 => rfl
  | j + 1 => by
    have ih := shK_stop s dom j
    rw [← Nat.add_assoc, shK, ih]
    split
    · rename_i p _
      have := (wgt_bd dom (16 + j) p).2.2 (by omega)
      omega
    · omega
theorem share_cut (s : List (Int × Int)) (dom : Int) : shareOf s dom = shK s dom (s.take 16).length := by
  unfold shareOf
  rw [List.length_take]
  by_cases h : 16 ≤ s.length
  · obtain ⟨j, hj⟩ : ∃ j, s.length = 16 + j := ⟨s.length - 16, by omega⟩
    rw [Nat.min_eq_left h, hj, shK_stop]
  · rw [Nat.min_eq_right (by omega)]

/-- The ticks of so many. -/
def mineJ (dom d : Int) (X : Int) (j : Nat) : Int := X + (if d = dom then (j : Int) else 0)

set_option maxHeartbeats 8000000 in
theorem starts_any {w : World} {v : Value} {s : List (Int × Int)} (dom : Int) (h : SlotsR w v s) :
    Calls Try.prog 34 #[v, .int .i64 dom] w fun e w' => ∃ a c, e = .returned (.tuple #[.slice a (stO s dom).length c, .int .i64 (shareOf s dom)]) ∧ OwnB w' (.slice a (stO s dom).length c) (stO s dom) ∧ Keep (fun _ => False) w w' := by
  obtain ⟨a0, c0, hv⟩ := h.form
  subst hv
  have HS := hid h
  have hM : (s.take 16).length = min 16 s.length := List.length_take
  have HM := hid hM
  have R0 : OwnB (w.alloc (.cells #[] 4)) (.slice (some ⟨w.heap.size, 0, none⟩) 0 0) [] := World.ownsRow_made _ #[] 0 (Nat.zero_le _) (by simp [maxLen]) (by simp)
  have R0 := hid R0
  have K0 : Keep (fun _ => False) w (w.alloc (.cells #[] 4)) := (Keep.refl _ _).alloc _
  have K0 := hid K0
  have SHC := hid (share_cut s dom)
  clear h hM
  go_enter Try.func34, Try.ntmps34
  go_wp2_with fail
  go_loopw [6, 7, 8] (fun wh mi i wr => ∃ (k : Nat) (a : Option Addr) (c : Nat), k ≤ (s.take 16).length ∧ i = .int .i64 k ∧ mi = .int .i64 (shK s dom k) ∧ wh = .slice a (ownK s k).length c ∧ OwnB wr (.slice a (ownK s k).length c) ((ownK s k).map (stF s dom)) ∧ Keep (fun _ => False) w wr ∧ ∀ y, (Value.slice a (ownK s k).length c).ownBlock = some y → w.heap.size ≤ y) (fun _ _ i _ => 16 - (intOf i).toNat)
  case atStart => exact ⟨0, _, _, Nat.zero_le _, rfl, rfl, rfl, R0.out, K0.out, fun y hy => by have := Option.some.inj hy; dsimp only at this; omega⟩
  case round =>
    obtain ⟨k, a, c, hk, rfl, rfl, rfl, hO, hK, hF⟩ := hrel
    have O0 := hid hO
    have KK := hid hK
    have FF := hid hF
    have hk16 : k ≤ 16 := by have := HM.out; omega
    have hOL := ownK_len s k hk16
    have hsb := shK_bd s dom k
    clear R0 K0 hO hK hF
    by_cases hlt : k < (s.take 16).length
    · have hks : k < s.length := by have := HM.out; omega
      have hk6 : k < 16 := by have := HM.out; omega
      obtain ⟨⟨d, x⟩, hp⟩ : ∃ p, s[k]? = some p := ⟨_, List.getElem?_eq_getElem hks⟩
      obtain ⟨g, off, c1, hv1, hg, hcap, hmx, hcelld, hcell⟩ : ∃ g off c1, (Value.slice a0 s.length c0) = .slice (some ⟨g, off, none⟩) s.length c1 ∧ g < w.heap.size ∧ s.length ≤ c1 ∧ c1 ≤ maxLen ∧ (w.cell? ⟨g, off + k * 2, none⟩ = some (.int .i64 d)) ∧ (w.cell? ⟨g, off + k * 2 + 1, none⟩ = some (.int .i64 x)) := by
        rcases HS.out with ⟨_, _, _, h0⟩ | ⟨g, off, c1, h1, h2, h3, h4, h5⟩
        · rw [h0] at hks; simp at hks
        · exact ⟨g, off, c1, h1, h2, h3, h4, (h5 k _ hp).1, (h5 k _ hp).2⟩
      simp only [Value.slice.injEq] at hv1
      obtain ⟨rfl, -, rfl⟩ := hv1
      have k1 := (KK.out.cell (p := ⟨g, off + k * 2 + 1, none⟩) hg (fun h => h)).trans hcell
      have hgd : (s.getD k (0, 0)).1 = d := by rw [List.getD_eq_getElem?_getD, hp]; rfl
      unfold maxLen at hmx
      have hlt1 : (k : Int) < (s.length : Int) := by omega
      have hlt2 : (k : Int) < 16 := by omega
      have hn0 : s.length ≤ 9223372036854775807 := by omega
      have SS := hid (shK_succ (dom := dom) hp)
      have WG : Hid (wgt dom k (d, x) = if k < 16 ∧ 1 ≤ x ∧ x ≤ 16 ∧ d = dom then x else 0) := hid rfl
      have CD := hid hcelld
      have CX := hid hcell
      have HL := hid hlt
      obtain ⟨X, hX⟩ : ∃ X, shK s dom k = X := ⟨_, rfl⟩
      rw [hX] at hsb SS ⊢
      clear hX
      by_cases hl : 1 ≤ x ∧ x ≤ 16
      · have HY := hid (ownK_yes s k hlt d x hp hl)
        have DD := hid hgd
        obtain ⟨hx1, hx2⟩ := hl
        have hx0 : ¬ x < 1 := by omega
        have hx3 : ¬ 16 < x := by omega
        clear hp hlt hcell hcelld hgd
        go_wp2_with fail
        go_loopw [6, 7, 9] (fun wh mi i wr => ∃ (j : Nat) (a : Option Addr) (c : Nat), (j : Int) ≤ x ∧ i = .int .i64 j ∧ mi = .int .i64 (mineJ dom d X j) ∧ wh = .slice a (ownK s k ++ part k j).length c ∧ OwnB wr (.slice a (ownK s k ++ part k j).length c) ((ownK s k ++ part k j).map (stF s dom)) ∧ Keep (fun _ => False) w wr ∧ ∀ y, (Value.slice a (ownK s k ++ part k j).length c).ownBlock = some y → w.heap.size ≤ y) (fun _ _ i _ => 16 - (intOf i).toNat)
        case atStart => exact ⟨0, a, c, by omega, rfl, by unfold mineJ; congr 1; split <;> simp, by simp [part], by simpa [part] using O0.out, KK.out, by simpa [part] using FF.out⟩
        case round =>
          obtain ⟨j, b, e, hj, rfl, rfl, rfl, hQ, hKq, hFq⟩ := hrel
          have hj16 : j ≤ 16 := by omega
          have hPL : (part k j).length = j := by simp [part]
          have hL : (ownK s k ++ part k j).length ≤ 272 := by rw [List.length_append, hPL]; omega
          have k2 := (hKq.cell (p := ⟨g, off + k * 2 + 1, none⟩) hg (fun h => h)).trans CX.out
          have k3 := (hKq.cell (p := ⟨g, off + k * 2, none⟩) hg (fun h => h)).trans CD.out
          have Q := hid hQ
          have KQ := hid hKq
          have FQ := hid hFq
          have PS := hid (part_succ k j)
          obtain ⟨O, hO⟩ : ∃ O, ownK s k ++ part k j = O := ⟨_, rfl⟩
          have HO := hid hO
          rw [hO] at Q FQ hL ⊢
          obtain ⟨MJ, hMJ⟩ : ∃ z, mineJ dom d X j = z := ⟨_, rfl⟩
          have MD : Hid (mineJ dom d X (j + 1) = if d = dom then MJ + 1 else MJ) := hid (by rw [← hMJ]; unfold mineJ; split <;> omega)
          have mb : 0 ≤ MJ ∧ MJ ≤ 1000 := by rw [← hMJ]; unfold mineJ; split <;> omega
          have ME := hid hMJ
          rw [hMJ]
          clear hQ hPL hO hKq hFq hMJ k1
          by_cases hjx : (j : Int) < x
          · have lst : Hid (∀ B : Bool, B = (decide (j = 0) && decide (d = dom)) → (ownK s k ++ part k (j + 1)).map (stF s dom) = O.map (stF s dom) ++ [B] ∧ (ownK s k ++ part k (j + 1)).length = O.length + 1) := hid (fun B hB => by
              rw [PS.out, ← List.append_assoc, HO.out]
              refine ⟨?_, by simp⟩
              rw [List.map_append]
              congr 1
              show [stF s dom ((k : Int), j == 0)] = [B]
              unfold stF
              dsimp only
              rw [Int.toNat_natCast, DD.out, hB]
              congr 1)
            rcases (by omega : (j = 0 ∧ d = dom) ∨ (j = 0 ∧ d ≠ dom) ∨ (j ≠ 0 ∧ d = dom) ∨ (j ≠ 0 ∧ d ≠ dom)) with ⟨j0, hd⟩ | ⟨j0, hd⟩ | ⟨j0, hd⟩ | ⟨j0, hd⟩
            · have LS := hid (lst.out true (by rw [decide_eq_true j0, decide_eq_true hd]; rfl))
              have MR := hid (MD.out.trans (if_pos hd))
              have hj0 : ((j : Int) == 0) = true := by simp [j0]
              have hdb : (d == dom) = true := by simp [hd]
              clear lst MD hd j0
              have ka : Keep (fun _ => False) wr (wr.alloc (.cells #[.bool true] 4)) := (Keep.refl _ _).alloc _
              have hown := Q.out.keep ka (fun _ _ h => h)
              have hsrc := one_srcB wr true
              go_wp2_with (at_builtin; refine wpList_plain rfl (fun K hK => wp_append_bools _ (.tmp 44) (.tmp 56) rfl (.slice b O.length e) (O.map (stF s dom)) rfl hown _ 1 [true] rfl hsrc (by rw [List.length_map]; omega) ?_))
              intro v1 V1 o1 f1 kk1
              have K1 := (KQ.out.trans ka).then kk1 (fun y hy => .inr (FQ.out y hy))
              have F1 : ∀ y, v1.ownBlock = some y → w.heap.size ≤ y := fun y hy => (f1 y hy).elim (FQ.out y) (fun h => Nat.le_trans (KQ.out.trans ka).size (by rw [World.size_alloc]; exact h))
              obtain ⟨a1, n1, hv1⟩ := o1.form
              have hlen : (O.map (stF s dom) ++ [true]).length = O.length + 1 := by simp
              rw [hv1] at o1 F1
              rw [hlen] at hv1 o1 F1
              rw [← (LS.out).1] at o1
              subst hv1
              have k3 := (K1.cell (p := ⟨g, off + k * 2, none⟩) hg (fun h => h)).trans CD.out
              have k2 := (K1.cell (p := ⟨g, off + k * 2 + 1, none⟩) hg (fun h => h)).trans CX.out
              have O1 := hid o1
              have F1 := hid F1
              have K1 := hid K1
              have LL := hid (LS.out).2
              refine hK _ _ ?_
              clear hK K o1 f1 kk1 hown hsrc ka hlen
              go_wp2_with fail
              go_roundw
              case rel => exact ⟨j + 1, a1, n1, by omega, by go_num, by rw [MR.out], by rw [LL.out], by rw [LL.out]; exact O1.out, K1.out, by rw [LL.out]; exact F1.out⟩
              case measure => simp [intOf]; omega
            · have LS := hid (lst.out false (by rw [decide_eq_true j0, decide_eq_false hd]; rfl))
              have MR := hid (MD.out.trans (if_neg hd))
              have hj0 : ((j : Int) == 0) = true := by simp [j0]
              have hdb : (d == dom) = false := by simp [hd]
              clear lst MD hd j0
              have ka : Keep (fun _ => False) wr (wr.alloc (.cells #[.bool false] 4)) := (Keep.refl _ _).alloc _
              have hown := Q.out.keep ka (fun _ _ h => h)
              have hsrc := one_srcB wr false
              go_wp2_with (at_builtin; refine wpList_plain rfl (fun K hK => wp_append_bools _ (.tmp 44) (.tmp 56) rfl (.slice b O.length e) (O.map (stF s dom)) rfl hown _ 1 [false] rfl hsrc (by rw [List.length_map]; omega) ?_))
              intro v1 V1 o1 f1 kk1
              have K1 := (KQ.out.trans ka).then kk1 (fun y hy => .inr (FQ.out y hy))
              have F1 : ∀ y, v1.ownBlock = some y → w.heap.size ≤ y := fun y hy => (f1 y hy).elim (FQ.out y) (fun h => Nat.le_trans (KQ.out.trans ka).size (by rw [World.size_alloc]; exact h))
              obtain ⟨a1, n1, hv1⟩ := o1.form
              have hlen : (O.map (stF s dom) ++ [false]).length = O.length + 1 := by simp
              rw [hv1] at o1 F1
              rw [hlen] at hv1 o1 F1
              rw [← (LS.out).1] at o1
              subst hv1
              have k3 := (K1.cell (p := ⟨g, off + k * 2, none⟩) hg (fun h => h)).trans CD.out
              have k2 := (K1.cell (p := ⟨g, off + k * 2 + 1, none⟩) hg (fun h => h)).trans CX.out
              have O1 := hid o1
              have F1 := hid F1
              have K1 := hid K1
              have LL := hid (LS.out).2
              refine hK _ _ ?_
              clear hK K o1 f1 kk1 hown hsrc ka hlen
              go_wp2_with fail
              go_roundw
              case rel => exact ⟨j + 1, a1, n1, by omega, by go_num, by rw [MR.out], by rw [LL.out], by rw [LL.out]; exact O1.out, K1.out, by rw [LL.out]; exact F1.out⟩
              case measure => simp [intOf]; omega
            · have LS := hid (lst.out false (by rw [decide_eq_false j0, decide_eq_true hd]; rfl))
              have MR := hid (MD.out.trans (if_pos hd))
              have hj0 : ((j : Int) == 0) = false := by simp; omega
              have hdb : (d == dom) = true := by simp [hd]
              clear lst MD hd j0
              have ka : Keep (fun _ => False) wr (wr.alloc (.cells #[.bool false] 4)) := (Keep.refl _ _).alloc _
              have hown := Q.out.keep ka (fun _ _ h => h)
              have hsrc := one_srcB wr false
              go_wp2_with (at_builtin; refine wpList_plain rfl (fun K hK => wp_append_bools _ (.tmp 44) (.tmp 56) rfl (.slice b O.length e) (O.map (stF s dom)) rfl hown _ 1 [false] rfl hsrc (by rw [List.length_map]; omega) ?_))
              intro v1 V1 o1 f1 kk1
              have K1 := (KQ.out.trans ka).then kk1 (fun y hy => .inr (FQ.out y hy))
              have F1 : ∀ y, v1.ownBlock = some y → w.heap.size ≤ y := fun y hy => (f1 y hy).elim (FQ.out y) (fun h => Nat.le_trans (KQ.out.trans ka).size (by rw [World.size_alloc]; exact h))
              obtain ⟨a1, n1, hv1⟩ := o1.form
              have hlen : (O.map (stF s dom) ++ [false]).length = O.length + 1 := by simp
              rw [hv1] at o1 F1
              rw [hlen] at hv1 o1 F1
              rw [← (LS.out).1] at o1
              subst hv1
              have k3 := (K1.cell (p := ⟨g, off + k * 2, none⟩) hg (fun h => h)).trans CD.out
              have k2 := (K1.cell (p := ⟨g, off + k * 2 + 1, none⟩) hg (fun h => h)).trans CX.out
              have O1 := hid o1
              have F1 := hid F1
              have K1 := hid K1
              have LL := hid (LS.out).2
              refine hK _ _ ?_
              clear hK K o1 f1 kk1 hown hsrc ka hlen
              go_wp2_with fail
              go_roundw
              case rel => exact ⟨j + 1, a1, n1, by omega, by go_num, by rw [MR.out], by rw [LL.out], by rw [LL.out]; exact O1.out, K1.out, by rw [LL.out]; exact F1.out⟩
              case measure => simp [intOf]; omega
            · have LS := hid (lst.out false (by rw [decide_eq_false j0, decide_eq_false hd]; rfl))
              have MR := hid (MD.out.trans (if_neg hd))
              have hj0 : ((j : Int) == 0) = false := by simp; omega
              have hdb : (d == dom) = false := by simp [hd]
              clear lst MD hd j0
              have ka : Keep (fun _ => False) wr (wr.alloc (.cells #[.bool false] 4)) := (Keep.refl _ _).alloc _
              have hown := Q.out.keep ka (fun _ _ h => h)
              have hsrc := one_srcB wr false
              go_wp2_with (at_builtin; refine wpList_plain rfl (fun K hK => wp_append_bools _ (.tmp 44) (.tmp 56) rfl (.slice b O.length e) (O.map (stF s dom)) rfl hown _ 1 [false] rfl hsrc (by rw [List.length_map]; omega) ?_))
              intro v1 V1 o1 f1 kk1
              have K1 := (KQ.out.trans ka).then kk1 (fun y hy => .inr (FQ.out y hy))
              have F1 : ∀ y, v1.ownBlock = some y → w.heap.size ≤ y := fun y hy => (f1 y hy).elim (FQ.out y) (fun h => Nat.le_trans (KQ.out.trans ka).size (by rw [World.size_alloc]; exact h))
              obtain ⟨a1, n1, hv1⟩ := o1.form
              have hlen : (O.map (stF s dom) ++ [false]).length = O.length + 1 := by simp
              rw [hv1] at o1 F1
              rw [hlen] at hv1 o1 F1
              rw [← (LS.out).1] at o1
              subst hv1
              have k3 := (K1.cell (p := ⟨g, off + k * 2, none⟩) hg (fun h => h)).trans CD.out
              have k2 := (K1.cell (p := ⟨g, off + k * 2 + 1, none⟩) hg (fun h => h)).trans CX.out
              have O1 := hid o1
              have F1 := hid F1
              have K1 := hid K1
              have LL := hid (LS.out).2
              refine hK _ _ ?_
              clear hK K o1 f1 kk1 hown hsrc ka hlen
              go_wp2_with fail
              go_roundw
              case rel => exact ⟨j + 1, a1, n1, by omega, by go_num, by rw [MR.out], by rw [LL.out], by rw [LL.out]; exact O1.out, K1.out, by rw [LL.out]; exact F1.out⟩
              case measure => simp [intOf]; omega
          · have hfin : Hid (ownK s (k + 1) = O) := hid (by
              have : x.toNat = j := by omega
              rw [HY.out, this]; exact HO.out)
            have hjx2 : ¬ (j : Int) < x := hjx
            have hsh : Hid (shK s dom (k + 1) = MJ) := hid (by
              rw [SS.out, ← ME.out, WG.out]
              unfold mineJ
              have : (j : Int) = x := by omega
              rw [this]
              by_cases hd : d = dom
              · rw [if_pos hd, if_pos ⟨hk6, hx1, hx2, hd⟩]
              · rw [if_neg hd, if_neg fun h => hd h.2.2.2])
            go_wp2_with fail
            go_roundw
            case rel => exact ⟨k + 1, b, e, by have := HL.out; omega, by go_num, by rw [hsh.out], by rw [hfin.out], by rw [hfin.out]; exact Q.out, KQ.out, by rw [hfin.out]; exact FQ.out⟩
            case measure => simp [intOf]; omega
      · have HY := hid (ownK_no s k hlt d x hp hl)
        have hsh : Hid (shK s dom (k + 1) = X) := hid (by rw [SS.out, WG.out, if_neg fun h => hl ⟨h.2.1, h.2.2.1⟩, Int.add_zero])
        have hx : x < 1 ∨ 1 ≤ x ∧ 16 < x := by omega
        clear hp hcell hcelld hlt hl
        rcases hx with hx | ⟨hx1, hx2⟩
        all_goals
          go_wp2_with fail
          go_roundw
          case rel => exact ⟨k + 1, a, c, by have := HL.out; omega, by go_num, by rw [hsh.out], by rw [HY.out], by rw [HY.out]; exact O0.out, KK.out, by rw [HY.out]; exact FF.out⟩
          case measure => simp [intOf]; omega
    · have hke : k = (s.take 16).length := by omega
      have hall : ownK s k = ownOf (entsOf s) := by unfold ownK entsOf; rw [List.take_of_length_le (by omega)]
      have hsl : (stO s dom).length = (ownOf (entsOf s)).length := by rw [stO, List.length_map]
      have hsh : Hid (shareOf s dom = shK s dom k) := hid (by rw [hke]; exact SHC.out)
      rw [hall] at O0 FF ⊢
      have O1 : OwnB wr (.slice a (ownOf (entsOf s)).length c) (stO s dom) := O0.out
      rw [← hsl] at O1 ⊢
      have O1 := hid O1
      rw [← hsh.out]
      have hge : ¬ ((k : Int) < (s.length : Int)) ∨ (k : Int) < (s.length : Int) ∧ ¬ ((k : Int) < 16) := by have := HM.out; omega
      clear hall hlt hOL hsl hke
      rcases hge with h1 | ⟨h1, h2⟩
      all_goals
        go_wp2_with fail
        go_ret2
        exact ⟨a, c, rfl, O1.out, KK.out⟩

set_option maxHeartbeats 1000000 in
theorem rshare_any {w : World} {v : Value} {s : List (Int × Int)} (dom : Int) (h : SlotsR w v s) :
    Calls Try.prog 24 #[v, .int .i64 dom] w fun e w' => e = .returned (.int .i64 (shareOf s dom)) ∧ Keep (fun _ => False) w w' := by
  obtain ⟨a0, c0, hv⟩ := h.form
  subst hv
  have H := hid h
  clear h
  go_enter Try.func24, Try.ntmps24
  go_wp2_with fail
  refine (starts_any dom H.out).mono ?_
  rintro _ w1 ⟨a, c, rfl, O, k1⟩
  have K1 := hid k1
  clear O k1
  go_wp2
  go_ret
  exact ⟨rfl, K1.out⟩
end Go.Proofs.Ythnocalnlonniaa
