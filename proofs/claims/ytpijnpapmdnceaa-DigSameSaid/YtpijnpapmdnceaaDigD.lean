/- The walk of the reference's digest. -/
import Derived.Test.YtpijnpapmdnceaaDigE
import Derived.Laws.MakeOwn
import Derived.Laws.IdiomStrings
namespace Go.Proofs.Ytpijnpapmdnceaa
open Go Go.RowKit

/-- Byte i of a state. -/
def byt (s : List L64) (i : Nat) : B8 := (gl s (i / 8) >>> (8 * (i % 8))).setWidth 8
theorem byt_val (X : L64) (n : Nat) : (X.toNat : Int) / 2 ^ n % 256 = (((X >>> n).setWidth 8).toNat : Int) := by
  rw [shr_val, BitVec.toNat_setWidth]; omega
def dgB (s : List L64) : List B8 := (List.range 32).map (byt s)
/-- The digest of bytes. -/
def dgt (l : List B8) : List B8 := dgB (dgS l (allN l.length / 136))
theorem dgt_len (l : List B8) : (dgt l).length = 32 := by simp [dgt, dgB]
/-- A text of these bytes. -/
def bstr (l : List B8) : Value := .string ⟨(l.map UInt8.ofBitVec).toArray⟩
theorem stN_all (l : List B8) : stN l (allN l.length) = dgS l (allN l.length / 136) := by
  have h : allN l.length % 136 = 0 := by unfold allN; omega
  rw [stN, h]; rfl
/-- The first k of the 32 bytes; zeros behind. -/
def outK (s : List L64) (k : Nat) : List B8 := (List.range 32).map fun i => if i < k then byt s i else 0#8
theorem outK_len (s : List L64) (k : Nat) : (outK s k).length = 32 := by simp [outK]
theorem outK_zero (s : List L64) : outK s 0 = List.replicate 32 0#8 := by simp [outK]; rfl
theorem outK_all (s : List L64) : outK s 32 = dgB s := by
  unfold outK dgB
  exact List.map_congr_left fun i hi => if_pos (List.mem_range.1 hi)
theorem outK_succ (s : List L64) (k : Nat) (h : k < 32) : (outK s k).set k (byt s k) = outK s (k + 1) := by
  apply List.ext_getElem
  · simp [outK]
  · intro i h1 h2
    rw [List.getElem_set]
    simp only [outK, List.getElem_map, List.getElem_range]
    by_cases c : k = i
    · subst c; rw [if_pos rfl, if_pos (by omega)]
    · rw [if_neg c]
      by_cases c2 : i < k
      · rw [if_pos c2, if_pos (by omega)]
      · rw [if_neg c2, if_neg (by omega)]

theorem madeCells_one (z : Value) (n : Nat) : madeCells #[z] n = (List.replicate n z).toArray := by
  unfold madeCells
  apply Array.ext
  · simp
  · intro i h1 h2
    have : i % 1 = 0 := Nat.mod_one i
    simp [this]
theorem wp_make_bytes (w : World) {o : Oper} {a : Act} {K : Act → World → Prop} {Q : Exit → Act → World → Prop} (x y : Operand) (ho : o.op = .makeSlice 22 x y) (n m : Nat)
    (hx : a.eval x = .int .i64 (n : Int)) (hy : a.eval y = .int .i64 (m : Int)) (hnm : n ≤ m) (hm : m ≤ 1000000)
    (h : ∀ w', OwnY w' (.slice (some ⟨w.heap.size, 0, none⟩) n m) (List.replicate n 0#8) → Keep (fun _ => False) w w' → K (a.put o.dst (.slice (some ⟨w.heap.size, 0, none⟩) n m)) w') : o.wp Try.prog a w K Q := by
  obtain ⟨i0, hi, hz0, hz1, hz2⟩ := info_parts Try.infoY
  have hr := run_make (P := Try.prog) w 22 5 i0 (.int .u8 0) Try.underlying22 hi hz0 .i64 .i64 (n : Int) (m : Int) (by omega) (by omega) (by rw [hz2]; omega) (by omega)
  rw [hz1] at hr
  simp only [Int.toNat_natCast, Nat.mul_one] at hr
  unfold Oper.wp execOp
  simp only [ho, hx, hy, Sem.run_bind, Sem.run_pure, Result.andThen_ok, hr]
  refine h _ ?_ ((Keep.refl _ _).alloc _)
  refine ⟨by simp [flat8], .inr ⟨w.heap.size, m, _, by simp, Nat.zero_le _, heap_alloc_new w _, by simpa using hnm, by unfold maxLen; omega, by rw [size_madeCells]; omega, ?_⟩⟩
  have e : (Value.int .u8 0).cells = #[.int .u8 0] := rfl
  rw [e, madeCells_one]
  simp [flat8]
  omega

theorem bytes_conv {W : World} {a : Option Addr} {n c : Nat} {l : List B8} (h : ReadY W (.slice a n c) l) : (convert 22 9 (.slice a n c)).run Try.prog W = .ok (bstr l) W := by
  have go : ∀ ad, n = l.length → (∀ j (hj : j < (l.map UInt8.ofBitVec).length), W.cell? (ad.add j) = some (.int .u8 ((l.map UInt8.ofBitVec)[j].toNat : Int))) → (convert 22 9 (.slice (some ad) n c)).run Try.prog W = .ok (bstr l) W := by
    intro ad hn hc
    have := run_convert_bytes_back (P := Try.prog) W 22 9 5 ad c (l.map UInt8.ofBitVec) Try.underlying22 Try.underlying5 Try.underlying9 hc
    rw [List.length_map, ← hn] at this
    exact this
  obtain ⟨a', c', hv, rfl⟩ | ⟨g, off, c', hv, hg, hm, hc⟩ := h
  · simp only [Value.slice.injEq] at hv
    obtain ⟨rfl, rfl, rfl⟩ := hv
    cases a with
    | none =>
      rw [run_convert_bytes_string W 22 9 5 none 0 c Try.underlying22 Try.underlying5 Try.underlying9]
      rfl
    | some ad => exact go ad rfl (fun j hj => by simp at hj)
  · simp only [Value.slice.injEq] at hv
    obtain ⟨rfl, rfl, rfl⟩ := hv
    refine go _ rfl (fun j hj => ?_)
    rw [List.length_map] at hj
    have hadd : (⟨g, off, none⟩ : Addr).add j = ⟨g, off + j, none⟩ := by unfold Addr.add; split <;> simp_all
    rw [hadd, hc j hj, gb_get l j hj]
    simp

set_option maxRecDepth 10000 in
set_option maxHeartbeats 1000000 in
theorem rof_any {w : World} {v : Value} {l : List B8} (h : ReadY w v l) (hl : l.length ≤ 1000) :
    Calls Try.prog 15 #[v] w fun e w' => e = .returned (bstr (dgt l)) ∧ Keep (fun _ => False) w w' := by
  obtain ⟨a, c, hv⟩ := h.form
  have H := hid h
  subst hv
  obtain ⟨n, hn⟩ : ∃ n, l.length = n := ⟨_, rfl⟩
  have HN := hid hn
  have hal := allN_lt n
  have AD : Hid (allN n = (n / 136 + 1) * 136) := hid rfl
  have PF : Hid (∀ i, padF l i = patb l (allN n) i) := hid (by intro i; unfold padF; rw [hn])
  rw [hn] at H hl ⊢
  obtain ⟨al, hAl⟩ : ∃ al, allN n = al := ⟨_, rfl⟩
  rw [hAl] at hal AD PF
  have dv : (n : Int).tdiv 136 = ((n / 136 : Nat) : Int) := by rw [Int.tdiv_eq_ediv_of_nonneg (by omega)]; rfl
  have dm : IntKind.i64.wrap (((n / 136 : Nat) : Int) + 1) * 136 = (al : Int) := by rw [IntWalk.i64_in _ ⟨by omega, by omega⟩, AD.out]; omega
  have DA : Hid (dgt l = dgB (stN l al)) := hid (by rw [dgt, ← stN_all, hn, hAl])
  have zr : Hid (stN l 0 = z25) := hid (stN_zero l)
  clear h hn hAl
  have q1 : RowL (w.alloc (.cells (stv z25).toArray 28)) w.heap.size 28 z25 := heap_alloc_new w _
  have kk : Keep (fun _ => False) w (w.alloc (.cells (stv z25).toArray 28)) := (Keep.refl _ _).alloc _
  have q1 := hid q1
  have r1 := hid (q1.out.row (s' := z25))
  have rk := hid (kk.setRow (g := w.heap.size) (Nat.le_refl _) (stv z25).toArray)
  clear kk
  go_enter Try.func15, Try.ntmps15
  go_wp2_with (first | (with_reducible refine wpList_bd built37 rfl rfl ?_) | ((with_reducible refine wpList_st (.tmp 4) (.tmp 14) rfl rfl _ rfl z25 rfl rfl z25 rfl ?_ ?_); exact q1.out))
  clear q1
  rw [show ((n : Int) / 136 + 1) * 136 = (al : Int) from by have := AD.out; omega]
  go_loopw [5] (fun i wr => ∃ k : Nat, k ≤ al ∧ i = .int .i64 k ∧ RowL wr w.heap.size 28 (stN l k) ∧ Keep (fun _ => False) w wr) (fun i _ => al - (intOf i).toNat)
  case atStart => exact ⟨0, Nat.zero_le _, rfl, r1.out, rk.out⟩
  case round =>
    obtain ⟨k, hk, rfl, hR, hK⟩ := hrel
    have R := hid hR
    have KK := hid hK
    have HR := hid (H.out.keep hK (fun _ _ h => h))
    clear r1 rk hR hK
    by_cases hlt : k < al
    · have hlt' : (k : Int) < (al : Int) := by omega
      have SL := hid (stN_len l k)
      have SM := hid (stN_mid l k)
      have SE := hid (stN_end l k)
      obtain ⟨u, hu⟩ : ∃ u, stN l k = u := ⟨_, rfl⟩
      rw [hu] at R SL SM SE
      obtain ⟨m, hm⟩ : ∃ m, k % 136 = m := ⟨_, rfl⟩
      have MD := hid hm
      have m136 : m < 136 := by omega
      have hrm : (k : Int).tmod 136 = (m : Int) := by rw [Int.tmod_eq_emod_of_nonneg (by omega), ← hm]; rfl
      obtain ⟨q, hq⟩ : ∃ q, m / 8 = q := ⟨_, rfl⟩
      obtain ⟨r, hr⟩ : ∃ r, m % 8 = r := ⟨_, rfl⟩
      have q17 : q < 17 := by omega
      have r8 : r < 8 := by omega
      have hqd : (m : Int).tdiv 8 = (q : Int) := by rw [Int.tdiv_eq_ediv_of_nonneg (by omega), ← hq]; rfl
      have hrd : (m : Int).tmod 8 = (r : Int) := by rw [Int.tmod_eq_emod_of_nonneg (by omega), ← hr]; rfl
      have hqi : (q : Int) < 25 := by omega
      have wq : IntKind.i64.wrap (q : Int) = (q : Int) := IntWalk.i64_in _ ⟨by omega, by omega⟩
      have wr8 : IntKind.i64.wrap (8 * (r : Int)) = ((8 * r : Nat) : Int) := by rw [IntWalk.i64_in _ ⟨by omega, by omega⟩]; omega
      have cq := R.out.cell q (by rw [SL.out]; omega)
      have fq := R.out.fro q
      have PFk := hid (PF.out k)
      obtain ⟨x, hx⟩ : ∃ x, patb l al k = x := ⟨_, rfl⟩
      have HX := hid hx
      obtain ⟨X, hX⟩ : ∃ X, gl u q = X := ⟨_, rfl⟩
      have HXX := hid hX
      rw [hX] at cq
      have b8 := b8_lt x
      have IV := hid (inl8_val x r)
      have EQ : Hid (bits BinOp.xor .u64 (X.toNat : Int) (IntKind.u64.wrap (IntKind.u64.wrap (x.toNat : Int) * 2 ^ min (IntKind.u64.wrap (8 * (r : Int))).toNat 64)) = ((X ^^^ inl8 x r).toNat : Int)) := hid (by
        have e1 : IntKind.u64.wrap (x.toNat : Int) = (x.toNat : Int) := by rw [IntKind.wrap_u64]; omega
        have e2 : IntKind.u64.wrap (8 * (r : Int)) = ((8 * r : Nat) : Int) := by rw [IntKind.wrap_u64]; omega
        rw [e1, e2, Int.toNat_natCast, Nat.min_eq_left (by omega), IV.out, xor_val])
      have HQ := hid hq
      have HRr := hid hr
      clear hu hm hq hr hx hX
      go_wp2_with fail
      refine wp_region_text [0,0,0,0,0,0,0,2,0,0,0,0,0,0,0,0,3] (fun W => W.cell? ⟨w.heap.size, q, none⟩ = some (.int .u64 (X.toNat : Int))) (by kernel_rfl) (by kernel_rfl) cq ?_
      repeat (first
        | (refine' wpT_calm (v := _) (by rfl) (fun W hW => ?_) ?_; rotate_left
           · ((try dsimp only at hW); go_simp; first | done | rfl)
           simp only [Act.put, List.setIfInBounds_toArray, List.set_cons_zero, List.set_cons_succ])
        | (refine' wpT_reads (v := _) (by rfl) ?_ ?_; rotate_left
           · (go_simp; first | done | rfl)
           simp only [Act.put, List.setIfInBounds_toArray, List.set_cons_zero, List.set_cons_succ])
        | (refine wpT_skip (by rfl) rfl ?_; simp only [Act.put, List.setIfInBounds_toArray, List.set_cons_zero, List.set_cons_succ])
        | (refine wpT_does (by rfl) (fun K hK => ?_); go_simp; refine hK _ _ ?_ ?_
           · (trivial)
           clear hK K; try simp only [Act.put, List.setIfInBounds_toArray, List.set_cons_zero, List.set_cons_succ])
        | (refine wpT_last (by rfl) (fun K hK => ?_); go_simp; refine hK _ _ ?_; clear hK K)
        | (refine wpT_nil ?_))
      refine wpT_does (by rfl) (fun K hK => ?_)
      go_simp
      refine (rat_any (HR.out.keep ((Keep.refl (fun _ => False) _).drew) (fun _ _ h => h)) al k (by rw [HN.out]; exact hal.1) hlt (by omega)).mono ?_
      rintro _ _ ⟨rfl, rfl⟩
      rw [HX.out]
      refine hK _ _ cq ?_
      clear hK K
      try simp only [List.getElem_toArray, List.getElem_cons_zero, List.getElem_cons_succ, Act.put, List.setIfInBounds_toArray, List.set_cons_zero, List.set_cons_succ]
      repeat (first
        | (refine' wpT_calm (v := _) (by rfl) (fun W hW => ?_) ?_; rotate_left
           · ((try dsimp only at hW); go_simp; first | done | rfl)
           simp only [Act.put, List.setIfInBounds_toArray, List.set_cons_zero, List.set_cons_succ])
        | (refine' wpT_reads (v := _) (by rfl) ?_ ?_; rotate_left
           · (go_simp; first | done | rfl)
           simp only [Act.put, List.setIfInBounds_toArray, List.set_cons_zero, List.set_cons_succ])
        | (refine wpT_skip (by rfl) rfl ?_; simp only [Act.put, List.setIfInBounds_toArray, List.set_cons_zero, List.set_cons_succ])
        | (refine wpT_does (by rfl) (fun K hK => ?_); go_simp; refine hK _ _ ?_ ?_
           · (trivial)
           clear hK K; try simp only [Act.put, List.setIfInBounds_toArray, List.set_cons_zero, List.set_cons_succ])
        | (refine wpT_last (by rfl) (fun K hK => ?_); go_simp; refine hK _ _ ?_; clear hK K)
        | (refine wpT_nil ?_))
      rw [EQ.out]
      have R1 : Hid (RowL (wr.setCell ⟨w.heap.size, q, none⟩ (.int .u64 ((X ^^^ inl8 x r).toNat : Int))).drew w.heap.size 28 (u.set q (X ^^^ inl8 x r))) := hid (RowL.set (w := wr.drew) R.out q (X ^^^ inl8 x r))
      have K1 := hid ((KK.out.setCell (p := ⟨w.heap.size, q, none⟩) (.inr (Nat.le_refl _)) (.int .u64 ((X ^^^ inl8 x r).toNat : Int))).drew)
      clear dv dm hrm hqd hrd hqi wq wr8 cq fq b8 hlt'
      by_cases h135 : m = 135
      · have hmb : ((m : Int) == 135) = true := by simp [h135]
        have q16 : q = 16 := by have := HQ.out; omega
        have r7 : r = 7 := by have := HRr.out; omega
        have E : Hid (stN l (k + 1) = perm (u.set q (X ^^^ inl8 x r))) := hid (by
          have h1 : k % 136 = 135 := by rw [MD.out, h135]
          have h2 := SE.out h1
          rw [PFk.out, HX.out] at h2
          have h3 := HXX.out
          rw [q16] at h3 ⊢
          rw [r7, h2, h3])
        have hl2 : (u.set q (X ^^^ inl8 x r)).length = 25 := by rw [List.length_set]; exact SL.out
        have hp2 := perm_length _ hl2
        obtain ⟨u2, hu2⟩ : ∃ u2, u.set q (X ^^^ inl8 x r) = u2 := ⟨_, rfl⟩
        rw [hu2] at R1 hl2 hp2 E
        have EP : Is (stN l (k + 1)) (perm u2) := ⟨E.out⟩
        clear hu2 E h135 q16 r7
        generalize IntKind.u64.wrap (IntKind.u64.wrap (x.toNat : Int) * 2 ^ min (IntKind.u64.wrap (8 * (r : Int))).toNat 64) = J1
        generalize IntKind.u64.wrap (8 * (r : Int)) = J2
        generalize IntKind.u64.wrap (x.toNat : Int) = J3
        generalize (X ^^^ inl8 x r) = J4 at R1 K1 ⊢
        go_wp2_with ((with_reducible refine wpList_ld (.tmp 4) rfl rfl _ rfl u2 hl2 R1.out ?_))
        refine (rperm_any u2 hl2 _).mono ?_
        rintro _ W3 ⟨rfl, k3⟩
        have R3 := hid (R1.out.keep k3 (fun h => h))
        have K3 := hid (K1.out.trans k3)
        obtain ⟨u3, hu3⟩ : ∃ u3, perm u2 = u3 := ⟨_, rfl⟩
        rw [hu3] at hp2 EP ⊢
        clear hu3 k3
        go_wp2_with (with_reducible refine wpList_st (.tmp 4) (.tmp 41) rfl rfl _ rfl u3 hp2 rfl u2 hl2 R3.out ?_)
        go_roundw
        case rel => exact ⟨k + 1, by omega, by go_num, by rw [EP.eq]; exact R3.out.row, K3.out.setRow (Nat.le_refl _) _⟩
        case measure => simp [intOf]; omega
      · have hmb : ((m : Int) == 135) = false := by simp; omega
        have E : Hid (stN l (k + 1) = u.set q (X ^^^ inl8 x r)) := hid (by rw [SM.out m MD.out h135, HQ.out, HRr.out, HXX.out, PFk.out, HX.out])
        go_wp2_with fail
        go_roundw
        case rel => exact ⟨k + 1, by omega, by go_num, by rw [E.out]; exact R1.out, K1.out⟩
        case measure => simp [intOf]; omega
    · obtain rfl : k = al := by omega
      have hlt' : ¬ ((k : Int) < (k : Int)) := by omega
      have SL := hid (stN_len l k)
      obtain ⟨u, hu⟩ : ∃ u, stN l k = u := ⟨_, rfl⟩
      have HU : Is (stN l k) u := ⟨hu⟩
      rw [hu] at R SL
      have DD : Hid (dgt l = outK u 32) := hid (by rw [DA.out, HU.eq, outK_all])
      obtain ⟨b2, hb2⟩ : ∃ b, wr.heap.size = b := ⟨_, rfl⟩
      have hbb : w.heap.size < b2 := by rw [← hb2]; exact R.out.lt
      clear hu dv dm hlt hk hal
      go_wp2_with (at_make; refine wpList_plain rfl (fun K hK => wp_make_bytes _ _ _ rfl 32 32 rfl rfl (by decide) (by decide) ?_))
      intro W2 o2 k2
      refine hK _ _ ?_
      clear hK K
      try rw [hb2] at o2
      have O2 := hid o2
      have R2 := hid (R.out.keep k2 (fun h => h))
      have K2 := hid (KK.out.trans k2)
      have OZ := hid (outK_zero u)
      clear R KK o2 k2 hb2 hlt'
      go_wp2_with fail
      go_loopw [8] (fun i wr2 => ∃ k : Nat, k ≤ 32 ∧ i = .int .i64 k ∧ OwnY wr2 (.slice (some ⟨b2, 0, none⟩) 32 32) (outK u k) ∧ RowL wr2 w.heap.size 28 u ∧ Keep (fun _ => False) w wr2) (fun i _ => 32 - (intOf i).toNat)
      case atStart => exact ⟨0, Nat.zero_le _, rfl, by rw [OZ.out]; exact O2.out, R2.out, K2.out⟩
      case round =>
        obtain ⟨k2, hk2, rfl, hO, hR, hK⟩ := hrel
        clear O2 R2 K2 OZ
        by_cases hlt : k2 < 32
        · have hlt2 : (k2 : Int) < 32 := by omega
          have BS := hid (outK_succ u k2 hlt)
          have BV := hid (byt_val (gl u (k2 / 8)) (8 * (k2 % 8)))
          have BD : Hid (byt u k2 = (gl u (k2 / 8) >>> (8 * (k2 % 8))).setWidth 8) := hid rfl
          obtain ⟨q, hq⟩ : ∃ q, k2 / 8 = q := ⟨_, rfl⟩
          obtain ⟨r, hr⟩ : ∃ r, k2 % 8 = r := ⟨_, rfl⟩
          have hqd : (k2 : Int).tdiv 8 = (q : Int) := by rw [Int.tdiv_eq_ediv_of_nonneg (by omega), ← hq]; rfl
          have hrd : (k2 : Int).tmod 8 = (r : Int) := by rw [Int.tmod_eq_emod_of_nonneg (by omega), ← hr]; rfl
          have hqi : (q : Int) < 25 := by omega
          have r8 : r < 8 := by omega
          have hq25 : q < u.length := by rw [SL.out]; omega
          have cq := hR.cell q hq25
          rw [hq, hr] at BV BD
          obtain ⟨_, _, hv, _, _, hcell⟩ := hO.block (by rw [outK_len]; decide)
          simp only [Value.slice.injEq, Option.some.injEq, Addr.mk.injEq, and_true] at hv
          obtain ⟨rfl, -, rfl⟩ := hv
          obtain ⟨kc, kf⟩ := hcell k2 (by rw [outK_len]; exact hlt)
          have SV := hid (OwnY.set hO k2 (byt u k2))
          have HR := hid hR
          have HK := hid hK
          have e2 : IntKind.u64.wrap (8 * (r : Int)) = ((8 * r : Nat) : Int) := by rw [IntKind.wrap_u64]; omega
          have wr8 : IntKind.i64.wrap (8 * (r : Int)) = ((8 * r : Nat) : Int) := by rw [IntWalk.i64_in _ ⟨by omega, by omega⟩]; omega
          obtain ⟨X, hX⟩ : ∃ X, gl u q = X := ⟨_, rfl⟩
          rw [hX] at cq BV BD
          clear hcell hO hR hK hq hr hX hq25
          go_wp2_with fail
          go_roundw
          case rel => exact ⟨k2 + 1, by omega, by go_num, by first | rw [BV.out, ← BD.out, ← BS.out]; exact SV.out, by exact HR.out.other _ _ (by dsimp only; omega), by exact HK.out.setCell (.inr (by dsimp only; omega)) _⟩
          case measure => simp [intOf]; omega
        · obtain rfl : k2 = 32 := by omega
          have CV := bytes_conv hO.reads
          have DV : Hid (bstr (outK u 32) = bstr (dgt l)) := hid (by rw [DD.out])
          obtain ⟨V, hV⟩ : ∃ V, bstr (outK u 32) = V := ⟨_, rfl⟩
          rw [hV] at CV DV
          have HK := hid hK
          clear hV hO hR hK hlt hk2 DD
          go_wp2_with fail
          go_ret
          exact ⟨by rw [DV.out]; rfl, HK.out⟩
end Go.Proofs.Ytpijnpapmdnceaa
