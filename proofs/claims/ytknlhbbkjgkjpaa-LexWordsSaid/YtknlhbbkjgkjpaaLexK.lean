/- LexBlanks. -/
import Derived.Test.YtknlhbbkjgkjpaaLexI
import Derived.Test.YtknlhbbkjgkjpaaLexJ
namespace Go.Proofs.Ytknlhbbkjgkjpaa
open Go Go.RowKit

theorem flatW_set : ∀ (l : List W3) (k c : Nat), k < l.length → (flatW l).set (k * 3 + 2) (.int .i64 (c : Int)) = flatW (l.set k ((gw l k).1, (gw l k).2.1, c))
  | [], k, _, h => absurd h (Nat.not_lt_zero _)
  | x :: l, 0, c, _ => by
    rw [List.set_cons_zero, flatW_cons, flatW_cons]
    rfl
  | x :: l, k + 1, c, h => by
    have ih := flatW_set l k c (by simpa using h)
    rw [List.set_cons_succ, flatW_cons, flatW_cons, List.set_append_right _ _ (by simp; omega)]
    congr 1
    rw [show (k + 1) * 3 + 2 - [(.string (bs x.1) : Value), .int .i64 (x.2.1 : Int), .int .i64 (x.2.2 : Int)].length = k * 3 + 2 by simp; omega]
    exact ih
theorem ClipW.setCol {w0 w : World} {g m : Nat} {l : List W3} (h : ClipW w0 w (.slice (some ⟨g, 0, none⟩) m m) l) (k c : Nat) (hk : k < m) (hm : l.length = m) : ClipW w0 (w.setCell ⟨g, k * 3 + 2, none⟩ (.int .i64 (c : Int))) (.slice (some ⟨g, 0, none⟩) m m) (l.set k ((gw l k).1, (gw l k).2.1, c)) := by
  obtain ⟨h0, _⟩ | ⟨g', cur, hv, hg0, hg, ht, hx⟩ := h
  · cases h0
  · simp only [Value.slice.injEq, Option.some.injEq, Addr.mk.injEq, and_true] at hv
    obtain ⟨rfl, _⟩ := hv
    refine .inr ⟨g, _, by rw [List.length_set, hm], hg0, heap_setCell_same w g (k * 3 + 2) cur 32 (.int .i64 (c : Int)) hg, ?_, by rw [List.length_set]; exact hx⟩
    rw [← flatW_set l k c (by omega), ← ht, List.length_set]
    simp only [Array.toList_setIfInBounds]
    rw [List.take_set]
theorem ClipW.spot {w0 w : World} {a : Option Addr} {m c : Nat} {l : List W3} (h : ClipW w0 w (.slice a m c) l) (hp : 0 < m) : ∃ g, a = some ⟨g, 0, none⟩ ∧ c = m ∧ l.length = m ∧ (∀ i, w.frozen? ⟨g, i, none⟩ = false) ∧ g < w.heap.size ∧ w0.heap.size ≤ g ∧ m ≤ maxLen := by
  obtain ⟨h0, rfl⟩ | ⟨g, cur, hv, hg0, hg, ht, hx⟩ := h
  · simp only [Value.slice.injEq] at h0
    omega
  · simp only [Value.slice.injEq] at hv
    obtain ⟨rfl, rfl, rfl⟩ := hv
    exact ⟨g, rfl, rfl, rfl, fun i => frozen_of_row w g i _ _ hg, lt_of_heap hg, hg0, hx⟩
theorem ClipW.col {w0 w : World} {g m : Nat} {l : List W3} (h : ClipW w0 w (.slice (some ⟨g, 0, none⟩) m m) l) (k : Nat) (hk : k < m) (hm : l.length = m) : w.cell? ⟨g, k * 3 + 2, none⟩ = some (.int .i64 ((gw l k).2.2 : Int)) := by
  obtain ⟨g', off, c', hv, _, _, hc⟩ := h.reads.at hm (by omega)
  simp only [Value.slice.injEq, Option.some.injEq, Addr.mk.injEq, and_true] at hv
  obtain ⟨⟨rfl, rfl⟩, _⟩ := hv
  have := (hc k hk).2.2
  rwa [Nat.zero_add] at this
/-- The first k words' columns are turned. -/
def mix (n : Nat) (l : List W3) (k : Nat) : List W3 := (l.take k).map (shCW n) ++ l.drop k
theorem mix_len (n : Nat) (l : List W3) (k : Nat) : (mix n l k).length = l.length := by simp [mix]; omega
theorem mix_gw (n : Nat) (l : List W3) (k : Nat) (h : k < l.length) : gw (mix n l k) k = gw l k := by
  unfold gw mix
  rw [List.getD_eq_getElem?_getD, List.getD_eq_getElem?_getD, List.getElem?_append_right (by simp; omega)]
  congr 1
  simp
  congr 1
  omega
theorem mix_succ (n : Nat) (l : List W3) (k : Nat) (h : k < l.length) : (mix n l k).set k ((gw l k).1, (gw l k).2.1, (gw l k).2.2 + n) = mix n l (k + 1) := by
  unfold mix
  have e : gw l k = l[k] := by simp [gw, h]
  rw [List.set_append_right _ _ (by simp; omega), List.take_succ_eq_append_getElem h, List.map_append, List.append_assoc]
  congr 1
  have e2 : k - ((l.take k).map (shCW n)).length = 0 := by simp; omega
  rw [e2, List.drop_eq_getElem_cons h, List.set_cons_zero, e]
  rfl
theorem mix_all (n : Nat) (l : List W3) : mix n l l.length = l.map (shCW n) := by simp [mix]
theorem lineOf_twice (l : By) : lineOf (lineOf l) = lineOf l := lineOf_all _ (lineOf_no l)
theorem blank_more (k : Nat) : bs (List.replicate k 32) ++ (⟨#[32]⟩ : ByteArray) = bs (List.replicate (k + 1) 32) := by
  rw [show (⟨#[32]⟩ : ByteArray) = bs [32] from rfl, cat_eq, List.replicate_succ']

set_option maxRecDepth 10000 in
set_option maxHeartbeats 1000000 in
theorem walk_LexBlanks' (w : World) (a b : By) (ha : a.length ≤ 140737488351232) (hb : b.length ≤ 140737488351232) (n : Nat) (hn : n ≤ 255) :
    Calls Try.prog 5 #[.string (bs a), .string (bs b), .int .u8 (n : Int)] w fun e w' => e = .returned (.bool true) ∧ Below w.heap.size w w' := by
  go_enter Try.func5, Try.ntmps5
  go_wp2_with fail
  go_loopw [0, 7] (fun s i wr => ∃ (k : Nat) (c : By), i = .int .i64 k ∧ s = .string (bs c) ∧ lineOf c = lineOf a ∧ (10 : UInt8) ∉ c.take k ∧ k ≤ c.length + 1 ∧ c.length ≤ a.length ∧ w = wr) (fun s i _ => a.length + 2 - (intOf i).toNat)
  case atStart => exact ⟨0, a, rfl, rfl, rfl, by simp, by omega, Nat.le_refl _, by first | trivial | rfl⟩
  case round =>
    obtain ⟨k, c, rfl, rfl, hlc, hno, hk, hca, rfl⟩ := hrel
    have bc := bs_size c
    by_cases hlt : k < c.length
    · have hlt' : (k : Int) < (c.length : Int) := by omega
      have SI : ∀ h, ((bs c)[k]'h).toNat = (c.getD k 0).toNat := fun h => bs_get c k h
      have CUT := hid (lineOf_cut c k hlt hno)
      have NOC := hid (take_no c k hlt hno)
      have LC := hid hlc
      obtain ⟨x, hx⟩ : ∃ x, (c.getD k 0).toNat = x := ⟨_, rfl⟩
      simp only [hx] at SI
      rw [hx] at CUT NOC
      have EX : (bs c).extract 0 k = bs (c.take k) := by rw [bs_extract, List.drop_zero]
      clear hlc hno hx
      by_cases hx : x = 10
      · have hx' : ((x : Int) == 10) = true := by simp [hx]
        have LT : Hid ((c.take k).length = k) := hid (by rw [List.length_take]; omega)
        have LO : Hid (lineOf (c.take k) = lineOf a ∧ (10 : UInt8) ∉ (c.take k).take (k + 1)) := hid (by
          have h1 := CUT.out hx
          rw [← h1]
          exact ⟨by rw [lineOf_twice]; exact LC.out, fun hm => lineOf_no c (List.mem_of_mem_take hm)⟩)
        obtain ⟨c2, hc2⟩ : ∃ c2, c.take k = c2 := ⟨_, rfl⟩
        rw [hc2] at EX LT LO
        clear hx hc2 CUT NOC
        go_wp2_with fail
        go_roundw
        case rel => exact ⟨k + 1, c2, by go_num, rfl, LO.out.1, LO.out.2, by rw [LT.out]; omega, by rw [LT.out]; omega, by first | trivial | rfl⟩
        case measure => simp [intOf]; omega
      · have hx' : ((x : Int) == 10) = false := by simp; omega
        have NO := hid (NOC.out hx)
        clear hx CUT NOC EX
        go_wp2_with fail
        go_roundw
        case rel => exact ⟨k + 1, c, by go_num, rfl, LC.out, NO.out, by omega, hca, by first | trivial | rfl⟩
        case measure => simp [intOf]; omega
    · have hlt' : ¬ (k : Int) < (c.length : Int) := by omega
      have hcn : (10 : UInt8) ∉ c := by rwa [List.take_of_length_le (by omega)] at hno
      have hs4 : c.length ≤ 140737488351232 := by omega
      have HC := hid hcn
      clear hlc hno hk hca hlt hcn
      go_wp2_with fail
      go_loopw [1, 8] (fun s i wr => ∃ (k : Nat) (d : By), i = .int .i64 k ∧ s = .string (bs d) ∧ lineOf d = lineOf b ∧ (10 : UInt8) ∉ d.take k ∧ k ≤ d.length + 1 ∧ d.length ≤ b.length ∧ w = wr) (fun s i _ => b.length + 2 - (intOf i).toNat)
      case atStart => exact ⟨0, b, rfl, rfl, rfl, by simp, by omega, Nat.le_refl _, by first | trivial | rfl⟩
      case round =>
        obtain ⟨k, d, rfl, rfl, hlc, hno, hk, hca, rfl⟩ := hrel
        have bd := bs_size d
        by_cases hlt : k < d.length
        · have hlt' : (k : Int) < (d.length : Int) := by omega
          have SI : ∀ h, ((bs d)[k]'h).toNat = (d.getD k 0).toNat := fun h => bs_get d k h
          have CUT := hid (lineOf_cut d k hlt hno)
          have NOC := hid (take_no d k hlt hno)
          have LC := hid hlc
          obtain ⟨x, hx⟩ : ∃ x, (d.getD k 0).toNat = x := ⟨_, rfl⟩
          simp only [hx] at SI
          rw [hx] at CUT NOC
          have EX : (bs d).extract 0 k = bs (d.take k) := by rw [bs_extract, List.drop_zero]
          clear hlc hno hx
          by_cases hx : x = 10
          · have hx' : ((x : Int) == 10) = true := by simp [hx]
            have LT : Hid ((d.take k).length = k) := hid (by rw [List.length_take]; omega)
            have LO : Hid (lineOf (d.take k) = lineOf b ∧ (10 : UInt8) ∉ (d.take k).take (k + 1)) := hid (by
              have h1 := CUT.out hx
              rw [← h1]
              exact ⟨by rw [lineOf_twice]; exact LC.out, fun hm => lineOf_no d (List.mem_of_mem_take hm)⟩)
            obtain ⟨d2, hc2⟩ : ∃ d2, d.take k = d2 := ⟨_, rfl⟩
            rw [hc2] at EX LT LO
            clear hx hc2 CUT NOC
            go_wp2_with fail
            go_roundw
            case rel => exact ⟨k + 1, d2, by go_num, rfl, LO.out.1, LO.out.2, by rw [LT.out]; omega, by rw [LT.out]; omega, by first | trivial | rfl⟩
            case measure => simp [intOf]; omega
          · have hx' : ((x : Int) == 10) = false := by simp; omega
            have NO := hid (NOC.out hx)
            clear hx CUT NOC EX
            go_wp2_with fail
            go_roundw
            case rel => exact ⟨k + 1, d, by go_num, rfl, LC.out, NO.out, by omega, hca, by first | trivial | rfl⟩
            case measure => simp [intOf]; omega
        · have hlt' : ¬ (k : Int) < (d.length : Int) := by omega
          have hcn : (10 : UInt8) ∉ d := by rwa [List.take_of_length_le (by omega)] at hno
          have hr4 : d.length ≤ 140737488351232 := by omega
          have HD := hid hcn
          clear hlc hno hk hca hlt hcn
          by_cases hbig : c.length + d.length > 3000
          · have h1 : (c.length : Int) + (d.length : Int) > 3000 := by omega
            have hw : IntKind.i64.wrap ((c.length : Int) + (d.length : Int)) = (c.length : Int) + (d.length : Int) := IntWalk.i64_in _ ⟨by omega, by omega⟩
            go_wp2_with fail
            refine (lawake_any _).mono ?_
            rintro _ w1 ⟨rfl, k1⟩
            have K1 := hid k1
            clear k1
            go_wp2_with fail
            go_ret
            exact ⟨rfl, K1.out.below (fun _ h => h.elim) (Nat.le_refl _)⟩
          · have h1 : ¬ (c.length : Int) + (d.length : Int) > 3000 := by omega
            have hw : IntKind.i64.wrap ((c.length : Int) + (d.length : Int)) = (c.length : Int) + (d.length : Int) := IntWalk.i64_in _ ⟨by omega, by omega⟩
            have nu : IntKind.i64.wrap (n : Int) = (n : Int) := IntWalk.i64_in _ ⟨by omega, by omega⟩
            go_wp2_with fail
            go_loopw [9, 10] (fun s i wr => ∃ k : Nat, i = .int .i64 k ∧ s = .string (bs (List.replicate k 32)) ∧ k ≤ n ∧ w = wr) (fun s i _ => n - (intOf i).toNat)
            case atStart => exact ⟨0, rfl, rfl, Nat.zero_le _, by first | trivial | rfl⟩
            case round =>
              obtain ⟨k, rfl, rfl, hk, rfl⟩ := hrel
              have bz := bs_size (List.replicate k (32 : UInt8))
              rw [List.length_replicate] at bz
              by_cases hlt : k < n
              · have hltn : (k : Int) < (n : Int) := by omega
                have BM := blank_more k
                obtain ⟨s1, hs1⟩ : ∃ s, bs (List.replicate k 32) = s := ⟨_, rfl⟩
                have HS1 := hid hs1
                obtain ⟨s2, hs2⟩ : ∃ s, bs (List.replicate (k + 1) 32) = s := ⟨_, rfl⟩
                have HS2 := hid hs2
                rw [hs1, hs2] at BM
                rw [hs1] at bz ⊢
                clear hs1 hs2
                go_wp2_with fail
                go_roundw
                case rel => exact ⟨k + 1, by go_num, by rw [HS2.out], by omega, by first | trivial | rfl⟩
                case measure => simp [intOf]; omega
              · obtain rfl : k = n := by omega
                have hltn : ¬ (k : Int) < (k : Int) := by omega
                have LB := hid (lex_blanks c d k HC.out HD.out (by omega) hn)
                have EZ : bs (List.replicate k 32) ++ bs c ++ (⟨#[35]⟩ : ByteArray) ++ bs d = bs (List.replicate k 32 ++ c ++ 35 :: d) := by
                  rw [show (⟨#[35]⟩ : ByteArray) = bs [35] from rfl, cat_eq, cat_eq, cat_eq]
                  simp
                have WA := hid (words_any c (by omega))
                have WR := hid (words_any d (by omega))
                have WZ := hid (words_any (List.replicate k 32 ++ c ++ 35 :: d) (by simp; omega))
                have da := hid (lex_bd c)
                obtain ⟨A, hA⟩ : ∃ A, lexR c = A := ⟨_, rfl⟩
                obtain ⟨R, hR⟩ : ∃ R, lexR d = R := ⟨_, rfl⟩
                obtain ⟨Z, hZ⟩ : ∃ Z, lexR (List.replicate k 32 ++ c ++ 35 :: d) = Z := ⟨_, rfl⟩
                rw [hA, hR, hZ] at LB
                rw [hA] at WA da
                rw [hR] at WR
                rw [hZ] at WZ
                obtain ⟨lA, eA, pA, cA⟩ := A
                obtain ⟨lR, eR, pR, cR⟩ := R
                obtain ⟨lZ, eZ, pZ, cZ⟩ := Z
                obtain ⟨zz, hzz⟩ : ∃ s, bs (List.replicate k 32 ++ c ++ 35 :: d) = s := ⟨_, rfl⟩
                obtain ⟨bl, hbl⟩ : ∃ s, bs (List.replicate k 32) = s := ⟨_, rfl⟩
                rw [hzz] at WZ EZ
                rw [hbl] at bz EZ ⊢
                dsimp only at LB WA WR WZ da
                clear hA hR hZ hzz hbl HC HD hk hlt hbig
                go_wp2_with fail
                refine (WA.out w).mono ?_
                rintro _ w1 ⟨v1, rfl, cl1, k1⟩
                obtain ⟨a1, c1, hv1⟩ := cl1.reads.form
                subst hv1
                have K1 := hid k1
                have B1 := hid (ClipW.blk cl1)
                have CL1 := hid cl1
                clear cl1 k1
                go_wp2_with fail
                refine (WZ.out w1).mono ?_
                rintro _ w2 ⟨v2, rfl, cl2, k2⟩
                obtain ⟨a2, c2, hv2⟩ := cl2.reads.form
                subst hv2
                have CL1b := hid (CL1.out.keep k2 (fun _ _ h => h))
                have K2 := hid (K1.out.trans k2)
                have RZ := hid cl2.reads
                have SEP : Hid (∀ y, (Value.slice a2 lZ.length c2).ownBlock = some y → (Value.slice a1 lA.length c1).ownBlock ≠ some y) := hid (fun y hy e => by
                  have h1 := (ClipW.blk cl2 y hy).1
                  have h2 := (B1.out y e).2
                  omega)
                clear cl2 k2 K1 CL1 B1
                go_wp2_with fail
                refine (WR.out w2).mono ?_
                rintro _ w3 ⟨v3, rfl, cl3, k3⟩
                obtain ⟨a3, c3, hv3⟩ := cl3.reads.form
                subst hv3
                have X1 := hid (CL1b.out.keep k3 (fun _ _ h => h))
                have RZ3 := hid (RZ.out.keep k3 (fun _ _ h => h))
                have K3 := hid (K2.out.trans k3)
                clear cl3 k3 K2 RZ CL1b
                by_cases he : eA = 0 ∧ eR = 0
                · obtain ⟨rfl, rfl⟩ := he
                  obtain ⟨q1, q2⟩ := LB.out.2 (by first | trivial | rfl) (by first | trivial | rfl)
                  subst q1
                  have QZ := hid q2
                  clear LB q2
                  go_wp2_with fail
                  obtain ⟨m, hm⟩ : ∃ m, lA.length = m := ⟨_, rfl⟩
                  have HM := hid hm
                  have m5 : m ≤ 5000 := by rw [← hm]; exact da.out.2.1
                  rw [hm] at X1 SEP ⊢
                  clear hm
                  have M0 : ClipW w w3 (.slice a1 m c1) (mix k lA 0) := X1.out
                  have M0 := hid M0
                  go_loopw [23] (fun i wr => ∃ j : Nat, j ≤ m ∧ i = .int .i64 j ∧ ClipW w wr (.slice a1 m c1) (mix k lA j) ∧ Keep (fun y => (Value.slice a1 m c1).ownBlock = some y) w3 wr) (fun i _ => m - (intOf i).toNat)
                  case atStart => exact ⟨0, Nat.zero_le _, rfl, M0.out, Keep.refl _ _⟩
                  case round =>
                    obtain ⟨j, hj, rfl, hX, hKj⟩ := hrel
                    have XX := hid hX
                    have KJ := hid hKj
                    clear hX hKj M0 X1
                    by_cases hlt : j < m
                    · have hltm : (j : Int) < (m : Int) := by omega
                      obtain ⟨g, ha1, hc1, hml, hfr, hg, hge, hmx⟩ := XX.out.spot (by omega)
                      subst ha1
                      subst hc1
                      have cc := XX.out.col j hlt hml
                      have ff := hfr (j * 3 + 2)
                      have hjl : j < lA.length := by rw [HM.out]; exact hlt
                      have bd := (da.out.1 _ (gw_mem2 lA j hjl)).2
                      have SC := XX.out.setCol j ((gw lA j).2.2 + k) hlt hml
                      rw [mix_gw k lA j hjl] at cc SC
                      rw [mix_succ k lA j hjl] at SC
                      have SC := hid SC
                      obtain ⟨x, hx⟩ : ∃ x, gw lA j = x := ⟨_, rfl⟩
                      rw [hx] at cc bd SC
                      have wx : IntKind.i64.wrap ((x.2.2 : Int) + (k : Int)) = (x.2.2 : Int) + (k : Int) := IntWalk.i64_in _ ⟨by omega, by omega⟩
                      have K4 := hid (KJ.out.setCell (p := ⟨g, j * 3 + 2, none⟩) (.inl rfl) (.int .i64 ((x.2.2 : Int) + (k : Int))))
                      unfold maxLen at hmx
                      clear hfr hx hjl
                      go_wp2_with fail
                      go_roundw
                      case rel => exact ⟨j + 1, by omega, by go_num, SC.out, K4.out⟩
                      case measure => simp [intOf]; omega
                    · obtain rfl : j = m := by omega
                      have hltm : ¬ (j : Int) < (j : Int) := by omega
                      have RA : ReadW w3 (.slice a3 lR.length c3) lR ∨ True := .inr trivial
                      have XR := XX.out.reads
                      have e := mix_all k lA
                      rw [HM.out] at e
                      rw [e, ← QZ.out] at XR
                      have XR := hid XR
                      have ZR := hid (RZ3.out.keep KJ.out (fun y hy hf => SEP.out y hy hf))
                      have XK := hid (K3.out.then KJ.out (fun y hy => .inr ((ClipW.blk XX.out y hy).1)))
                      clear e RA hlt hj XX KJ K3 RZ3
                      go_wp2_with fail
                      refine (lawake_any _).mono ?_
                      rintro _ w4 ⟨rfl, k4⟩
                      have K4 := hid (XK.out.trans k4)
                      have AK := alike_any (XR.out.keep k4 (fun _ _ h => h)) (ZR.out.keep k4 (fun _ _ h => h))
                      rw [show decide (lZ = lZ) = true from decide_eq_true rfl] at AK
                      have AK := hid AK
                      clear k4 XK
                      go_wp2_with fail
                      refine AK.out.mono ?_
                      rintro _ w5 ⟨rfl, k5⟩
                      have K5 := hid (K4.out.trans k5)
                      clear k5 K4 AK
                      go_wp2_with fail
                      go_ret
                      exact ⟨rfl, K5.out.below (fun _ h => h.elim) (Nat.le_refl _)⟩
                · have hz : eZ = 2 := LB.out.1 (by omega)
                  subst hz
                  have he2 : eA ≠ 0 ∨ eA = 0 ∧ eR ≠ 0 := by omega
                  clear LB he
                  rcases he2 with he | ⟨rfl, he⟩
                  case' inl => have hea : ((eA : Int) != 0) = true := by simp; omega
                  case' inr => have hea : ((eR : Int) != 0) = true := by simp; omega
                  all_goals
                    clear he
                    go_wp2_with fail
                    refine (lawake_any _).mono ?_
                    rintro _ w4 ⟨rfl, k4⟩
                    have K4 := hid (K3.out.trans k4)
                    clear k4 K3
                    go_wp2_with fail
                    go_ret
                    exact ⟨rfl, K4.out.below (fun _ h => h.elim) (Nat.le_refl _)⟩

theorem walk_LexBlanks (w : World) (A : ByteArray) (hA : A.size ≤ 140737488351232) (B : ByteArray) (hB : B.size ≤ 140737488351232) (n : Int) (hn : (Lit.int .u8 n).wf = true) :
    Calls Try.prog 5 #[.string A, .string B, .int .u8 n] w fun e w' => e = .returned (.bool true) ∧ Below w.heap.size w w' := by
  have h2 : 0 ≤ n ∧ n ≤ 255 := by
    have e1 : IntKind.u8.min = 0 := rfl
    have e2 : IntKind.u8.max = 255 := rfl
    simp [Lit.wf, e1, e2] at hn
    omega
  have := walk_LexBlanks' w A.toList B.toList (by rw [size_list]; exact hA) (by rw [size_list]; exact hB) n.toNat (by omega)
  rwa [bs_of, bs_of, Int.toNat_of_nonneg h2.1] at this
end Go.Proofs.Ytknlhbbkjgkjpaa
