/- The walks of the reference's ticks. -/
import Derived.Test.YthnocalnlonniaaTckD
import Derived.Test.YthnocalnlonniaaInt0
import Derived.Test.YthnocalnlonniaaBo0
namespace Go.Proofs.Ythnocalnlonniaa
open Go Go.RowKit

def Starts (s : List (Int × Int)) (dom k : Int) : Prop := ∃ e ∈ entsOf s, e.at_ = k ∧ e.dom = dom

theorem nxF_ents (s : List (Int × Int)) (dom t : Int) (hc : cyc s ≠ 0) : NxIs dom (cyc s) (heldOf t) (heldOf t % cyc s) (entsOf s) := by
  have hb := cyc_bd s
  have hh := heldOf_bd t
  have h1 := Int.emod_nonneg (heldOf t) hc
  have h2 := Int.emod_lt_of_pos (heldOf t) (show 0 < cyc s by omega)
  refine nxF_is _ _ _ _ _ fun e he => ?_
  have hm := entsOf_mem he
  obtain ⟨m, h3, h4, _⟩ := cand_is (c := cyc s) (t := heldOf t) (r := heldOf t % cyc s) (e := e) h1 h2 hm.2.2.2.2.2.1 (by have := hm.2.2.2.1; have := hm.2.2.2.2.2.2; omega)
  rw [h4]; omega

theorem next_found (s : List (Int × Int)) (dom t : Int) (hc : cyc s ≠ 0) (m : Nat) (hm : (m : Int) < cyc s) (hM : heldOf t + m ≤ 4611686018427387904) (hs : Starts s dom ((heldOf t % cyc s + m) % cyc s))
    (hno : ∀ j : Nat, j < m → ¬ Starts s dom ((heldOf t % cyc s + j) % cyc s)) : nextOf s dom t = (heldOf t + m, true) := by
  have hb := cyc_bd s
  have hh := heldOf_bd t
  have h1 := Int.emod_nonneg (heldOf t) hc
  have h2 := Int.emod_lt_of_pos (heldOf t) (show 0 < cyc s by omega)
  have key : ∀ e ∈ entsOf s, ∃ j : Nat, (j : Int) < cyc s ∧ cand (cyc s) (heldOf t) (heldOf t % cyc s) e = heldOf t + j ∧ (heldOf t % cyc s + j) % cyc s = e.at_ := fun e he => by
    have hm := entsOf_mem he
    exact cand_is h1 h2 hm.2.2.2.2.2.1 (by have := hm.2.2.2.1; have := hm.2.2.2.2.2.2; omega)
  obtain ⟨e, he, ha, hd⟩ := hs
  obtain ⟨j, hj1, hj2, hj3⟩ := key e he
  have hjm : j = m := wrap_uniq h1 h2 hj1 hm (by rw [hj3, ha])
  subst hjm
  have hx : nxF dom (cyc s) (heldOf t) (heldOf t % cyc s) (entsOf s) = heldOf t + j := by
    rcases nxF_ents s dom t hc with ⟨_, hall⟩ | ⟨h3, g, hg, hgd, hge, hgM, hmin⟩
    · have := hall e he hd; omega
    · have hle := hmin e he hd
      obtain ⟨i, hi1, hi2, hi3⟩ := key g hg
      rw [← hge, hi2]
      have : ¬ i < j := fun hij => hno i hij ⟨g, hg, hi3.symm, hgd⟩
      omega
  unfold nextOf
  rw [if_neg hc]
  dsimp only
  rw [hx]
  exact Prod.ext (by dsimp only; omega) (by dsimp only; exact decide_eq_true (by omega))

theorem next_none (s : List (Int × Int)) (dom t : Int) (hno : ∀ j : Nat, (j : Int) < cyc s → heldOf t + j ≤ 4611686018427387904 → ¬ Starts s dom ((heldOf t % cyc s + j) % cyc s)) : nextOf s dom t = (0, false) := by
  unfold nextOf
  by_cases hc : cyc s = 0
  · rw [if_pos hc]
  rw [if_neg hc]
  have hb := cyc_bd s
  have hh := heldOf_bd t
  have h1 := Int.emod_nonneg (heldOf t) hc
  have h2 := Int.emod_lt_of_pos (heldOf t) (show 0 < cyc s by omega)
  rcases nxF_ents s dom t hc with ⟨h3, _⟩ | ⟨h3, g, hg, hgd, hge, hgM, _⟩
  · dsimp only; rw [h3]; rfl
  · exfalso
    have hm := entsOf_mem hg
    obtain ⟨i, hi1, hi2, hi3⟩ := cand_is (c := cyc s) (t := heldOf t) (r := heldOf t % cyc s) (e := g) h1 h2 hm.2.2.2.2.2.1 (by have := hm.2.2.2.1; have := hm.2.2.2.2.2.2; omega)
    exact hno i hi1 (by omega) ⟨g, hg, hi3.symm, hgd⟩

set_option maxHeartbeats 400000 in
theorem rheld_any (t : Int) (w : World) : Calls Try.prog 21 #[.int .i64 t] w fun e w' => e = .returned (.int .i64 (heldOf t)) ∧ w = w' := by
  rcases (by omega : t < 0 ∨ (0 ≤ t ∧ 4611686018427387904 < t) ∨ (0 ≤ t ∧ t ≤ 4611686018427387904)) with h | ⟨h, h2⟩ | ⟨h, h2⟩
  · have E : Hid (heldOf t = 0) := hid (by unfold heldOf; omega)
    go_enter Try.func21, Try.ntmps21
    go_wp2
    go_ret
    exact ⟨by rw [E.out]; rfl, rfl⟩
  · have E : Hid (heldOf t = 4611686018427387904) := hid (by unfold heldOf; omega)
    go_enter Try.func21, Try.ntmps21
    go_wp2
    go_ret
    exact ⟨by rw [E.out]; rfl, rfl⟩
  · have E : Hid (heldOf t = t) := hid (heldOf_in h h2)
    go_enter Try.func21, Try.ntmps21
    go_wp2
    go_ret
    exact ⟨by rw [E.out]; rfl, rfl⟩

set_option maxHeartbeats 400000 in
theorem radd_any (t d : Int) (w : World) : Calls Try.prog 20 #[.int .i64 t, .int .i64 d] w fun e w' => e = .returned (.int .i64 (addOf t d)) ∧ w = w' := by
  have hb := heldOf_bd t
  have E0 : Hid (addOf t d = heldOf t + max 0 (min d (4611686018427387904 - heldOf t))) := hid rfl
  go_enter Try.func20, Try.ntmps20
  go_wp2_with fail
  refine (rheld_any t w).mono ?_
  rintro _ _ ⟨rfl, rfl⟩
  obtain ⟨T, hT⟩ : ∃ T, heldOf t = T := ⟨_, rfl⟩
  rw [hT] at hb E0 ⊢
  rcases (by omega : d < 0 ∨ (0 ≤ d ∧ 4611686018427387904 - T < d) ∨ (0 ≤ d ∧ d ≤ 4611686018427387904 - T)) with h | ⟨h, h2⟩ | ⟨h, h2⟩
  · have E : Hid (addOf t d = T) := hid (by rw [E0.out]; omega)
    go_wp2
    go_ret
    exact ⟨by rw [E.out]; rfl, rfl⟩
  · have E : Hid (addOf t d = 4611686018427387904) := hid (by rw [E0.out]; omega)
    go_wp2
    go_ret
    exact ⟨by rw [E.out]; rfl, rfl⟩
  · have E : Hid (addOf t d = T + d) := hid (by rw [E0.out]; omega)
    go_wp2
    go_ret
    exact ⟨by rw [E.out]; rfl, rfl⟩

/-- The ticks' slots behind k places, and j ticks of the next. -/
def ownK (s : List (Int × Int)) (k : Nat) : List (Int × Bool) := ownOf (ents 0 0 ((s.take 16).take k))
def part (n : Nat) (j : Nat) : List (Int × Bool) := (List.range j).map fun i => ((n : Int), i == 0)
theorem part_succ (n j : Nat) : part n (j + 1) = part n j ++ [((n : Int), j == 0)] := by simp [part, List.range_succ]

theorem ownK_no (s : List (Int × Int)) (k : Nat) (hk : k < (s.take 16).length) (d l : Int) (hp : s[k]? = some (d, l)) (hl : ¬ (1 ≤ l ∧ l ≤ 16)) : ownK s (k + 1) = ownK s k := by
  unfold ownK
  rw [take_more s k hk d l hp, ents_append, ents_cons, if_neg hl]
  simp [ents]
theorem ownK_yes (s : List (Int × Int)) (k : Nat) (hk : k < (s.take 16).length) (d l : Int) (hp : s[k]? = some (d, l)) (hl : 1 ≤ l ∧ l ≤ 16) : ownK s (k + 1) = ownK s k ++ part k l.toNat := by
  have hlen : ((s.take 16).take k).length = k := by rw [List.length_take]; omega
  unfold ownK
  rw [take_more s k hk d l hp, ents_append, ents_cons, if_pos hl, hlen, ownOf_append]
  simp [ents, ownOf, part]
theorem ownK_len (s : List (Int × Int)) (k : Nat) (hk : k ≤ 16) : (ownK s k).length ≤ 256 := by
  have h1 := ownOf_length (E := ents 0 0 ((s.take 16).take k)) fun e he => (ents_mem _ _ _ e he).2.2.2.1
  have h2 := total_nonneg ((s.take 16).take k) 0 0
  have h3 : ((s.take 16).take k).length ≤ k := List.length_take_le _ _
  unfold ownK
  omega

/-- The two lists of owners. -/
structure OwnR (w0 w : World) (a a' : Option Addr) (c c' : Nat) (O : List (Int × Bool)) : Prop where
  i : OwnI w (.slice a O.length c) (O.map (·.1))
  b : OwnB w (.slice a' O.length c') (O.map (·.2))
  fi : ∀ k, (Value.slice a O.length c).ownBlock = some k → w0.heap.size ≤ k
  fb : ∀ k, (Value.slice a' O.length c').ownBlock = some k → w0.heap.size ≤ k
  ap : ∀ k, (Value.slice a O.length c).ownBlock = some k → (Value.slice a' O.length c').ownBlock ≠ some k
  keep : Keep (fun _ => False) w0 w

set_option maxHeartbeats 4000000 in
theorem owners_any {w : World} {v : Value} {s : List (Int × Int)} (h : SlotsR w v s) :
    Calls Try.prog 32 #[v] w fun e w' => ∃ a a' c c', e = .returned (.tuple #[.slice a (ownOf (entsOf s)).length c, .slice a' (ownOf (entsOf s)).length c']) ∧ OwnR w w' a a' c c' (ownOf (entsOf s)) := by
  obtain ⟨a0, c0, hv⟩ := h.form
  subst hv
  have HS := hid h
  have hM : (s.take 16).length = min 16 s.length := List.length_take
  have HM := hid hM
  have R0 : OwnR w ((w.alloc (.cells #[] 3)).alloc (.cells #[] 4)) (some ⟨w.heap.size, 0, none⟩) (some ⟨w.heap.size + 1, 0, none⟩) 0 0 [] := by
    refine ⟨?_, ?_, ?_, ?_, ?_, ((Keep.refl _ _).alloc _).alloc _⟩
    · exact OwnI.keep (made_rowI w) ((Keep.refl (fun _ => False) _).alloc _) (fun _ _ h => h)
    · have : (w.alloc (.cells #[] 3)).heap.size = w.heap.size + 1 := by simp
      have h2 : OwnB ((w.alloc (.cells #[] 3)).alloc (.cells #[] 4)) (.slice (some ⟨(w.alloc (.cells #[] 3)).heap.size, 0, none⟩) 0 0) [] := World.ownsRow_made _ #[] 0 (Nat.zero_le _) (by simp [maxLen]) (by simp)
      rw [this] at h2
      exact h2
    · intro k hk; have := Option.some.inj hk; dsimp only at this; omega
    · intro k hk; have := Option.some.inj hk; dsimp only at this; omega
    · intro k hk hk2; have := Option.some.inj hk; have := Option.some.inj hk2; dsimp only at *; omega
  have R0 := hid R0
  clear h hM
  go_enter Try.func32, Try.ntmps32
  go_wp2
  go_loopw [4, 5, 6] (fun wh fi i wr => ∃ (k : Nat) (a a' : Option Addr) (c c' : Nat), k ≤ (s.take 16).length ∧ i = .int .i64 k ∧ wh = .slice a (ownK s k).length c ∧ fi = .slice a' (ownK s k).length c' ∧ OwnR w wr a a' c c' (ownK s k)) (fun _ _ i _ => 16 - (intOf i).toNat)
  case atStart => exact ⟨0, _, _, _, _, Nat.zero_le _, rfl, rfl, rfl, R0.out⟩
  case round =>
    obtain ⟨k, a, a', c, c', hk, rfl, rfl, rfl, hR⟩ := hrel
    have R := hid hR
    have hk16 : k ≤ 16 := by have := HM.out; omega
    have hOL := ownK_len s k hk16
    clear R0 hR
    by_cases hlt : k < (s.take 16).length
    · have hks : k < s.length := by have := HM.out; omega
      have hk6 : k < 16 := by have := HM.out; omega
      obtain ⟨⟨d, x⟩, hp⟩ : ∃ p, s[k]? = some p := ⟨_, List.getElem?_eq_getElem hks⟩
      obtain ⟨g, off, c1, hv1, hg, hcap, hmx, hcell⟩ : ∃ g off c1, (Value.slice a0 s.length c0) = .slice (some ⟨g, off, none⟩) s.length c1 ∧ g < w.heap.size ∧ s.length ≤ c1 ∧ c1 ≤ maxLen ∧ (w.cell? ⟨g, off + k * 2 + 1, none⟩ = some (.int .i64 x)) := by
        rcases HS.out with ⟨_, _, _, h0⟩ | ⟨g, off, c1, h1, h2, h3, h4, h5⟩
        · rw [h0] at hks; simp at hks
        · exact ⟨g, off, c1, h1, h2, h3, h4, (h5 k _ hp).2⟩
      simp only [Value.slice.injEq] at hv1
      obtain ⟨rfl, -, rfl⟩ := hv1
      have k1 := (R.out.keep.cell (p := ⟨g, off + k * 2 + 1, none⟩) hg (fun h => h)).trans hcell
      unfold maxLen at hmx
      have hlt1 : (k : Int) < (s.length : Int) := by omega
      have hlt2 : (k : Int) < 16 := by omega
      have hn0 : s.length ≤ 9223372036854775807 := by omega
      by_cases hl : 1 ≤ x ∧ x ≤ 16
      · have HY := hid (ownK_yes s k hlt d x hp hl)
        obtain ⟨hx1, hx2⟩ := hl
        have hx0 : ¬ x < 1 := by omega
        have hx3 : ¬ 16 < x := by omega
        clear hp hlt
        go_wp2
        go_loopw [4, 5, 7] (fun wh fi i wr => ∃ (j : Nat) (a a' : Option Addr) (c c' : Nat), (j : Int) ≤ x ∧ i = .int .i64 j ∧ wh = .slice a (ownK s k ++ part k j).length c ∧ fi = .slice a' (ownK s k ++ part k j).length c' ∧ OwnR w wr a a' c c' (ownK s k ++ part k j)) (fun _ _ i _ => 16 - (intOf i).toNat)
        case atStart => exact ⟨0, a, a', c, c', by omega, rfl, by simp [part], by simp [part], by simpa [part] using R.out⟩
        case round =>
          obtain ⟨j, b, b', e, e', hj, rfl, rfl, rfl, hQ⟩ := hrel
          have hj16 : j ≤ 16 := by omega
          have hPL : (part k j).length = j := by simp [part]
          have hL : (ownK s k ++ part k j).length ≤ 272 := by rw [List.length_append, hPL]; omega
          have k2 := (hQ.keep.cell (p := ⟨g, off + k * 2 + 1, none⟩) hg (fun h => h)).trans hcell
          have Q := hid hQ
          have PS := hid (part_succ k j)
          have HPL := hid hPL
          obtain ⟨O, hO⟩ : ∃ O, ownK s k ++ part k j = O := ⟨_, rfl⟩
          have HO := hid hO
          rw [hO] at Q hL ⊢
          clear hQ hPL hO
          by_cases hjx : (j : Int) < x
          · have ka : Keep (fun _ => False) wr (wr.alloc (.cells #[.int .i64 k] 3)) := (Keep.refl _ _).alloc _
            have hown := Q.out.i.keep ka (fun _ _ h => h)
            have hob := Q.out.b.keep ka (fun _ _ h => h)
            have hsrc := one_srcI wr (k : Int)
            go_wp2_with (at_builtin; refine wpList_plain rfl (fun K hK => wp_append_ints _ (.tmp 43) (.tmp 45) rfl (.slice b O.length e) (O.map (·.1)) rfl hown _ 1 [(k : Int)] rfl hsrc (by rw [List.length_map]; omega) ?_))
            intro v1 V1 o1 f1 k1
            have hob1 := hob.keep k1 (fun y hy hh => Q.out.ap y hh hy)
            have K1 := (Q.out.keep.trans ka).then k1 (fun y hy => .inr (Q.out.fi y hy))
            have F1 : ∀ y, v1.ownBlock = some y → w.heap.size ≤ y ∧ y < V1.heap.size ∧ (Value.slice b' O.length e').ownBlock ≠ some y := fun y hy => ⟨(f1 y hy).elim (Q.out.fi y) (fun h => Nat.le_trans (Q.out.keep.trans ka).size (by rw [World.size_alloc]; exact h)), own_lt o1 hy, fun hy2 => (f1 y hy).elim (fun h => Q.out.ap y h hy2) (fun h => by have := Q.out.b.lt hy2; omega)⟩
            obtain ⟨a1, n1, hv1⟩ := o1.form
            rw [hv1] at o1 F1
            have hlen : (O.map (·.1) ++ [(k : Int)]).length = O.length + 1 := by simp
            rw [hlen] at hv1 o1 F1
            subst hv1
            refine hK _ _ ?_
            have O1 := hid o1
            have F1 := hid F1
            have K1 := hid K1
            have B1 := hid hob1
            clear hK K o1 f1 k1 hown hob hsrc ka hlen hob1
            have kb : Keep (fun _ => False) V1 (V1.alloc (.cells #[.bool ((j : Int) == 0)] 4)) := (Keep.refl _ _).alloc _
            have hown := B1.out.keep kb (fun _ _ h => h)
            have hoi := O1.out.keep kb (fun _ _ h => h)
            have hsrc := one_srcB V1 ((j : Int) == 0)
            go_wp2_with (at_builtin; refine wpList_plain rfl (fun K hK => wp_append_bools _ (.tmp 47) (.tmp 50) rfl (.slice b' O.length e') (O.map (·.2)) rfl hown _ 1 [((j : Int) == 0)] rfl hsrc (by rw [List.length_map]; omega) ?_))
            intro v2 V2 o2 f2 k2'
            have K2 := (K1.out.trans kb).then k2' (fun y hy => .inr (Q.out.fb y hy))
            have hoi2 := hoi.keep k2' (fun y hy hh => (F1.out y hy).2.2 hh)
            have F2 : ∀ y, v2.ownBlock = some y → w.heap.size ≤ y := fun y hy => (f2 y hy).elim (Q.out.fb y) (fun h => Nat.le_trans (K1.out.trans kb).size (by rw [World.size_alloc]; exact h))
            have A2 : ∀ y, (Value.slice a1 (O.length + 1) n1).ownBlock = some y → v2.ownBlock ≠ some y := fun y hy hy2 => (f2 y hy2).elim (fun h => (F1.out y hy).2.2 h) (fun h => by have := (F1.out y hy).2.1; omega)
            obtain ⟨a2, n2, hv2⟩ := o2.form
            rw [hv2] at o2 F2 A2
            have hlen : (O.map (·.2) ++ [((j : Int) == 0)]).length = O.length + 1 := by simp
            rw [hlen] at hv2 o2 F2 A2
            subst hv2
            have NR : OwnR w V2 a1 a2 n1 n2 (O ++ [((k : Int), j == 0)]) := by
              have hb : ((j : Int) == 0) = (j == 0) := by
                by_cases h0 : j = 0
                · subst h0; rfl
                · rw [(by simp [h0] : (j == 0) = false)]; simp only [beq_eq_false_iff_ne, ne_eq]; omega
              rw [hb] at o2
              have hlO : (O ++ [((k : Int), j == 0)]).length = O.length + 1 := by simp
              refine ⟨?_, ?_, ?_, ?_, ?_, K2⟩
              · rw [hlO, List.map_append]; exact hoi2
              · rw [hlO, List.map_append]; exact o2
              · rw [hlO]; exact fun y hy => (F1.out y hy).1
              · rw [hlO]; exact F2
              · rw [hlO]; exact A2
            have NR := hid NR
            have hlO : Hid ((ownK s k ++ part k (j + 1)).length = O.length + 1 ∧ ownK s k ++ part k (j + 1) = O ++ [((k : Int), j == 0)]) := hid (by
              have : ownK s k ++ part k (j + 1) = O ++ [((k : Int), j == 0)] := by rw [PS.out, ← List.append_assoc, HO.out]
              exact ⟨by rw [this]; simp, this⟩)
            refine hK _ _ ?_
            clear hK K o2 f2 k2' hown hoi hsrc kb hlen hoi2 F2 A2 K2
            go_wp2
            go_roundw
            case rel => exact ⟨j + 1, a1, a2, n1, n2, by omega, by go_num, by rw [hlO.out.1], by rw [hlO.out.1], by rw [hlO.out.2]; exact NR.out⟩
            case measure => simp [intOf]; omega
          · have hfin : Hid (ownK s (k + 1) = O) := hid (by
              have : x.toNat = j := by omega
              rw [HY.out, this]; exact HO.out)
            have hjx2 : ¬ (j : Int) < x := hjx
            go_wp2
            go_roundw
            case rel => exact ⟨k + 1, b, b', e, e', by have := HM.out; omega, by go_num, by rw [hfin.out], by rw [hfin.out], by rw [hfin.out]; exact Q.out⟩
            case measure => simp [intOf]; omega
      · have HY := hid (ownK_no s k hlt d x hp hl)
        have hx : x < 1 ∨ 1 ≤ x ∧ 16 < x := by omega
        clear hp hcell hlt hl
        rcases hx with hx | ⟨hx1, hx2⟩
        all_goals
          go_wp2
          go_roundw
          case rel => exact ⟨k + 1, a, a', c, c', by have := HM.out; omega, by go_num, by rw [HY.out], by rw [HY.out], by rw [HY.out]; exact R.out⟩
          case measure => simp [intOf]; omega
    · have hall : ownK s k = ownOf (entsOf s) := by unfold ownK entsOf; rw [List.take_of_length_le (by omega)]
      rw [hall] at R ⊢
      have hge : ¬ ((k : Int) < (s.length : Int)) ∨ (k : Int) < (s.length : Int) ∧ ¬ ((k : Int) < 16) := by have := HM.out; omega
      clear hall hlt hOL
      rcases hge with h1 | ⟨h1, h2⟩
      all_goals
        go_wp2
        go_ret2
        exact ⟨a, a', c, c', rfl, R.out⟩
end Go.Proofs.Ythnocalnlonniaa
