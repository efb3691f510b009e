/- LexTwo. -/
import Derived.Test.YtknlhbbkjgkjpaaLexF
import Derived.Test.YtknlhbbkjgkjpaaLexH
import Derived.Test.YtknlhbbkjgkjpaaArg
namespace Go.Proofs.Ytknlhbbkjgkjpaa
open Go Go.RowKit

theorem cat_eq (a b : By) : (bs a) ++ (bs b) = bs (a ++ b) := by
  have h : ∀ x y : ByteArray, x.data.toList = y.data.toList → x = y := by
    intro x y h
    cases x with
    | mk p =>
      cases y with
      | mk q => congr 1; exact Array.ext' h
  apply h
  simp [bs]

/-- Either kind of list that may be appended to. -/
def XW (w : World) (v : Value) (l : List W3) : Prop := (∃ w0, ClipW w0 w v l) ∨ OwnW w v l
theorem XW.form {w : World} {v : Value} {l : List W3} (h : XW w v l) : ∃ a c, v = .slice a l.length c := by
  rcases h with ⟨w0, h⟩ | h
  · exact h.reads.form
  · exact h.form
theorem XW.reads {w : World} {v : Value} {l : List W3} (h : XW w v l) : ReadW w v l := by
  rcases h with ⟨w0, h⟩ | h
  · exact h.reads
  · exact h.reads
theorem XW.keep {F : Nat → Prop} {w w' : World} {v : Value} {l : List W3} (h : XW w v l) (hK : Keep F w w') (hF : ∀ k, v.ownBlock = some k → ¬ F k) : XW w' v l := by
  rcases h with ⟨w0, h⟩ | h
  · exact .inl ⟨w0, h.keep hK hF⟩
  · exact .inr (h.keep hK hF)
theorem zeroCells_size (z : Array Value) (n : Nat) : (Builtin.zeroCells z n).size = n * z.size := size_zeroCells z n
/-- A word more; where the room is used up, in a new row. -/
theorem wp_append_xw (w : World) {o : Oper} {a : Act} {K : Act → World → Prop} {Q : Exit → Act → World → Prop} (s y : Operand)
    (ho : o.op = .call { callee := .builtin .append, args := #[s, y], argTypes := #[22, 22] })
    (v : Value) (l : List W3) (hs : a.eval s = v) (hown : XW w v l) (ad : Addr) (c : Nat) (x : W3) (hx : a.eval y = .slice (some ad) 1 c)
    (hc : ∀ j u, (flatW [x])[j]? = some u → w.cell? (ad.add j) = some u) (hn : l.length ≤ 100000)
    (h : ∀ v' w', OwnW w' v' (l ++ [x]) → (∀ k, v'.ownBlock = some k → (OwnW w v l ∧ v.ownBlock = some k) ∨ w.heap.size ≤ k) → Keep (fun k => OwnW w v l ∧ v.ownBlock = some k) w w' → K (a.put o.dst v') w') : o.wp Try.prog a w K Q := by
  by_cases hO : OwnW w v l
  · refine wp_append_words w s y ho v l hs hO _ 1 [x] hx (.inr ⟨ad, c, rfl, by rw [flatW_length]; rfl, hc, flatW_one _⟩) (by omega) ?_
    intro v' w' o1 f1 k1
    exact h v' w' o1 (fun k hk => (f1 k hk).elim (fun h => .inl ⟨hO, h⟩) .inr) (k1.mono (fun k _ hk => ⟨hO, hk⟩))
  · rcases hown with ⟨w0, hC⟩ | h2
    · rcases hC with ⟨rfl, rfl⟩ | ⟨g, cur, rfl, hg0, hg, ht, hm⟩
      · exact absurd (OwnW.nil w) hO
      · obtain ⟨i0, hi, hz0, hz1, hz2⟩ := info_parts Try.infoW
        have hcell : ∀ j u, (flatW l)[j]? = some u → w.cell? ((⟨g, 0, none⟩ : Addr).add j) = some u := fun j u hu => by
          rw [add_off, Nat.zero_add, cell_of_row w g j cur 32 (0, 0) hg]
          rw [← ht, List.getElem?_take] at hu
          split at hu
          · simpa using hu
          · cases hu
        have hr := run_append_grow (P := Try.prog) w 22 o.type 32 i0 (.agg #[.string ByteArray.empty, .int .i64 0, .int .i64 0]) Try.underlying22 hi hz0 ⟨g, 0, none⟩ l.length l.length (flatW l) (by rw [flatW_length, hz1]) hcell ad 1 c (flatW [x]) (by rw [flatW_length, hz1]; rfl) hc (by omega) (by omega) (growslice_fits (by omega) (by rw [hz2]; omega))
        have hge := grownCap_ge w (l.length + 1) l.length 32
        have hle := grownCap_le_maxLen w (l.length + 1) l.length 32 (by unfold maxLen; omega)
        unfold Oper.wp execOp
        simp only [ho, resolve, invoke, builtin, Sem.run_bind, Sem.run_pure, Result.andThen_ok, List.map_toArray, List.map_cons, List.map_nil, hs, hx, hr]
        refine h _ _ ?_ (fun k hk => .inr ?_) (((Keep.refl _ _).drew).alloc _)
        · refine ⟨by rw [flatW_length], .inr ⟨w.heap.size, _, _, by rw [List.length_append]; rfl, Nat.zero_le _, heap_alloc_new w.drew _, by rw [List.length_append]; exact hge, hle, ?_, ?_⟩⟩
          · simp only [Array.size_append, List.size_toArray, size_zeroCells, flatW_length]
            show l.length * 3 + 1 * 3 + _ * 3 = _
            rw [← Nat.add_mul, ← Nat.add_mul]
            congr 1
            omega
          · have e : (l ++ [x]).length * 3 = (flatW l ++ flatW [x]).length := by rw [← flatW_append, flatW_length]
            simp only [Array.toList_append, List.append_assoc]
            rw [e, ← List.append_assoc, flatW_append]
            exact List.take_left
        · simp [Value.ownBlock] at hk
          omega
    · exact absurd h2 hO
theorem bs_of (A : ByteArray) : bs A.toList = A := by
  obtain ⟨d⟩ := A
  rw [ByteArray.toList_eq]
  simp [bs]
theorem bs_get (l : By) (k : Nat) (h : k < (bs l).size) : ((bs l)[k]'h).toNat = (l.getD k 0).toNat := by
  have h2 : k < l.length := by rwa [bs_size] at h
  show ((l.toArray)[k]'(by simpa using h2)).toNat = _
  simp [h2]
/-- So many ends of lines in the first k bytes. -/
theorem count_next (a : By) (k : Nat) (h : k < a.length) : (a.take (k + 1)).count 10 = (a.take k).count 10 + (if (a.getD k 0).toNat = 10 then 1 else 0) := by
  rw [List.take_succ_eq_append_getElem h, List.count_append]
  congr 1
  have e : a.getD k 0 = a[k] := by simp [h]
  rw [e]
  by_cases c : a[k] = 10
  · rw [c]; rfl
  · rw [if_neg (fun e2 => c (UInt8.toNat_inj.1 (by rw [e2]; rfl)))]
    exact List.count_eq_zero.2 (fun hm => c (by simpa using (List.mem_singleton.1 hm).symm))
theorem gw_mem2 (l : List W3) (i : Nat) (h : i < l.length) : gw l i ∈ l := gw_mem l i h
theorem map_take (L : Nat) (l : List W3) (k : Nat) (h : k < l.length) : (l.take (k + 1)).map (shW L) = (l.take k).map (shW L) ++ [((gw l k).1, (gw l k).2.1 + L, (gw l k).2.2)] := by
  rw [List.take_succ_eq_append_getElem h, List.map_append]
  have e : gw l k = l[k] := by simp [gw, h]
  rw [e]
  rfl

theorem ClipW.blk {w0 w : World} {v : Value} {l : List W3} (h : ClipW w0 w v l) : ∀ k, v.ownBlock = some k → w0.heap.size ≤ k ∧ k < w.heap.size := by
  intro k hk
  obtain ⟨rfl, _⟩ | ⟨g, cur, rfl, hg0, hg, _⟩ := h
  · cases hk
  · cases hk
    exact ⟨hg0, lt_of_heap hg⟩

set_option maxRecDepth 10000 in
set_option maxHeartbeats 1000000 in
theorem walk_LexTwo' (w : World) (a b : By) (ha : a.length ≤ 140737488351232) (hb : b.length ≤ 140737488351232) :
    Calls Try.prog 4 #[.string (bs a), .string (bs b)] w fun e w' => e = .returned (.bool true) ∧ Below w.heap.size w w' := by
  have ba := bs_size a
  have bb := bs_size b
  by_cases hbig : a.length + b.length > 4000
  · have h1 : (a.length : Int) + (b.length : Int) > 4000 := by omega
    have hw : IntKind.i64.wrap ((a.length : Int) + (b.length : Int)) = (a.length : Int) + (b.length : Int) := IntWalk.i64_in _ ⟨by omega, by omega⟩
    go_enter Try.func4, Try.ntmps4
    go_wp2_with fail
    refine (lawake_any _).mono ?_
    rintro _ w1 ⟨rfl, k1⟩
    have K1 := hid k1
    clear k1
    go_wp2_with fail
    go_ret
    exact ⟨rfl, K1.out.below (fun _ h => h.elim) (Nat.le_refl _)⟩
  · have h1 : ¬ (a.length : Int) + (b.length : Int) > 4000 := by omega
    have hw : IntKind.i64.wrap ((a.length : Int) + (b.length : Int)) = (a.length : Int) + (b.length : Int) := IntWalk.i64_in _ ⟨by omega, by omega⟩
    have LT := hid (lex_two a b (by omega))
    have EAB : bs a ++ (⟨#[10]⟩ : ByteArray) ++ bs b = bs (a ++ 10 :: b) := by
      rw [show (⟨#[10]⟩ : ByteArray) = bs [10] from rfl, cat_eq, cat_eq]
      simp
    have WZ := hid (words_any (a ++ 10 :: b) (by simp; omega))
    have WA := hid (words_any a (by omega))
    have WB := hid (words_any b (by omega))
    have da := hid (lex_bd a)
    have db := hid (lex_bd b)
    have dz := hid (lex_bd (a ++ 10 :: b))
    have hc : Hid (a.length ≤ 4000) := hid (by omega)
    clear hb hbig
    obtain ⟨A, hA⟩ : ∃ A, lexR a = A := ⟨_, rfl⟩
    obtain ⟨B, hB⟩ : ∃ B, lexR b = B := ⟨_, rfl⟩
    obtain ⟨Z, hZ⟩ : ∃ Z, lexR (a ++ 10 :: b) = Z := ⟨_, rfl⟩
    rw [hA, hB, hZ] at LT
    rw [hA] at WA da
    rw [hB] at WB db
    rw [hZ] at WZ dz
    obtain ⟨lA, eA, pA, cA⟩ := A
    obtain ⟨lB, eB, pB, cB⟩ := B
    obtain ⟨lZ, eZ, pZ, cZ⟩ := Z
    obtain ⟨ab, hab⟩ : ∃ ab, bs (a ++ 10 :: b) = ab := ⟨_, rfl⟩
    rw [hab] at WZ EAB
    dsimp only at LT WA WB WZ da db dz
    clear hA hB hZ hab
    go_enter Try.func4, Try.ntmps4
    go_wp2_with fail
    refine (WA.out w).mono ?_
    rintro _ w1 ⟨v1, rfl, cl1, k1⟩
    obtain ⟨a1, c1, hv1⟩ := cl1.reads.form
    subst hv1
    have K1 := hid k1
    have B1 := hid (ClipW.blk cl1)
    have CL1 := hid cl1
    clear cl1 k1
    go_wp2_with fail
    refine (WB.out w1).mono ?_
    rintro _ w2 ⟨v2, rfl, cl2, k2⟩
    obtain ⟨a2, c2, hv2⟩ := cl2.reads.form
    subst hv2
    have CL1b := hid (CL1.out.keep k2 (fun _ _ h => h))
    have K2 := hid (K1.out.trans k2)
    have CL2 := hid cl2
    have B2 := hid (ClipW.blk cl2)
    have S2 := hid k2.size
    clear cl2 k2 K1 CL1
    go_wp2_with fail
    refine (WZ.out w2).mono ?_
    rintro _ w3 ⟨v3, rfl, cl3, k3⟩
    obtain ⟨a3, c3, hv3⟩ := cl3.reads.form
    subst hv3
    have X1 := hid (CL1b.out.keep k3 (fun _ _ h => h))
    have RB := hid ((CL2.out.keep k3 (fun _ _ h => h)).reads)
    have RZ := hid cl3.reads
    have K3 := hid (K2.out.trans k3)
    have B3 := hid (ClipW.blk cl3)
    have SEP : Hid (∀ y, (Value.slice a1 lA.length c1).ownBlock = some y → w.heap.size ≤ y ∧ (Value.slice a2 lB.length c2).ownBlock ≠ some y ∧ (Value.slice a3 lZ.length c3).ownBlock ≠ some y) := hid (fun y hy => by
      have h1 := B1.out y hy
      have h2 := S2.out
      exact ⟨h1.1, fun e => by have := (B2.out y e).1; omega, fun e => by have := (B3.out y e).1; omega⟩)
    have L2 : Hid (∀ y, (Value.slice a2 lB.length c2).ownBlock = some y → y < w3.heap.size) := hid (fun y hy => Nat.lt_of_lt_of_le (B2.out y hy).2 k3.size)
    have L3 : Hid (∀ y, (Value.slice a3 lZ.length c3).ownBlock = some y → y < w3.heap.size) := hid (fun y hy => (B3.out y hy).2)
    have KS := hid K3.out.size
    clear cl3 k3 K2 CL2 CL1b B1 B2 B3 S2
    by_cases he : eA = 0
    · subst he
      go_wp2_with fail
      go_loopw [17, 18] (fun s i wr => ∃ k : Nat, k ≤ a.length ∧ i = .int .i64 k ∧ s = .int .i64 ((1 + (a.take k).count 10 : Nat) : Int) ∧ w3 = wr) (fun _ i _ => a.length - (intOf i).toNat)
      case atStart => exact ⟨0, Nat.zero_le _, rfl, rfl, by first | trivial | rfl⟩
      case round =>
        obtain ⟨k, hk, rfl, rfl, rfl⟩ := hrel
        by_cases hlt : k < a.length
        · have hlt' : (k : Int) < (a.length : Int) := by omega
          have SI : ∀ h, ((bs a)[k]'h).toNat = (a.getD k 0).toNat := fun h => bs_get a k h
          have CN := hid (count_next a k hlt)
          have hcl : (a.take k).count 10 ≤ 4000 := by
            have h1 := List.count_le_length (a := (10 : UInt8)) (l := a.take k)
            rw [List.length_take] at h1
            have := hc.out
            omega
          obtain ⟨x, hx⟩ : ∃ x, (a.getD k 0).toNat = x := ⟨_, rfl⟩
          simp only [hx] at SI
          rw [hx] at CN
          obtain ⟨n, hn⟩ : ∃ n, (a.take k).count 10 = n := ⟨_, rfl⟩
          rw [hn] at CN hcl ⊢
          clear hx hn
          by_cases hx : x = 10
          · have hx' : ((x : Int) == 10) = true := by simp [hx]
            have CN2 := hid (CN.out.trans (by rw [if_pos hx]))
            clear hx CN
            go_wp2_with fail
            go_roundw
            case rel => exact ⟨k + 1, by omega, by go_num, by rw [CN2.out]; go_num, by first | trivial | rfl⟩
            case measure => simp [intOf]; omega
          · have hx' : ((x : Int) == 10) = false := by simp; omega
            have CN2 := hid (CN.out.trans (by rw [if_neg hx]))
            clear hx CN
            go_wp2_with fail
            go_roundw
            case rel => exact ⟨k + 1, by omega, by go_num, by rw [CN2.out]; go_num, by first | trivial | rfl⟩
            case measure => simp [intOf]; omega
        · obtain rfl : k = a.length := by omega
          rw [List.take_length]
          have hcl : a.count 10 ≤ 4000 := by
            have h1 := List.count_le_length (a := (10 : UInt8)) (l := a)
            have := hc.out
            omega
          obtain ⟨n, hn⟩ : ∃ n, a.count 10 = n := ⟨_, rfl⟩
          rw [hn] at LT hcl ⊢
          obtain ⟨L, hL⟩ : ∃ L, 1 + n = L := ⟨_, rfl⟩
          have hL4 : L ≤ 4001 := by omega
          rw [hL] at LT ⊢
          clear hn hL hcl hlt hk
          by_cases hf : eB = 0
          · subst hf
            obtain ⟨q1, q2⟩ := LT.out.2.2 (by first | trivial | rfl) (by first | trivial | rfl)
            subst q1
            have QZ := hid q2
            obtain ⟨nA, hnA⟩ : ∃ n, lA.length = n := ⟨_, rfl⟩
            obtain ⟨nB, hnB⟩ : ∃ n, lB.length = n := ⟨_, rfl⟩
            have HNA := hid hnA
            have HNB := hid hnB
            have na5 : nA ≤ 5000 := by rw [← hnA]; exact da.out.2.1
            have nb5 : nB ≤ 5000 := by rw [← hnB]; exact db.out.2.1
            rw [hnA] at X1 SEP ⊢
            rw [hnB] at RB SEP L2 ⊢
            clear LT q2 hnA hnB
            go_wp2_with fail
            go_loopw [5, 19] (fun s i wr => ∃ (k : Nat) (ax : Option Addr) (cx : Nat), k ≤ nB ∧ i = .int .i64 k ∧ s = .slice ax (nA + k) cx ∧ XW wr (.slice ax (nA + k) cx) (lA ++ (lB.take k).map (shW L)) ∧
                (∀ y, (Value.slice ax (nA + k) cx).ownBlock = some y → w.heap.size ≤ y ∧ (Value.slice a2 nB c2).ownBlock ≠ some y ∧ (Value.slice a3 lZ.length c3).ownBlock ≠ some y) ∧ Keep (fun _ => False) w wr ∧ ReadW wr (.slice a2 nB c2) lB ∧ ReadW wr (.slice a3 lZ.length c3) lZ ∧ w3.heap.size ≤ wr.heap.size) (fun _ i _ => nB - (intOf i).toNat)
            case atStart => exact ⟨0, a1, c1, Nat.zero_le _, rfl, rfl, by rw [List.take_zero, List.map_nil, List.append_nil]; exact .inl ⟨_, X1.out⟩, SEP.out, K3.out, RB.out, RZ.out, Nat.le_refl _⟩
            case round =>
              obtain ⟨k, ax, cx, hk, rfl, rfl, hX, hS, hK, hB, hZ, hsz⟩ := hrel
              have XX := hid hX
              have SS := hid hS
              have KK := hid hK
              have BB := hid hB
              have ZZ := hid hZ
              clear X1 SEP K3 RB RZ hX hS hK hB hZ
              by_cases hlt : k < nB
              · have hlt' : (k : Int) < (nB : Int) := by omega
                obtain ⟨g, o, c4, hv4, hg, hmx, hcc⟩ := BB.out.at HNB.out (by omega)
                have HV4 := hid hv4
                simp only [Value.slice.injEq] at hv4
                obtain ⟨rfl, -, rfl⟩ := hv4
                obtain ⟨y1, y2, y3⟩ := hcc k hlt
                have MT := hid (map_take L lB k (by rw [HNB.out]; exact hlt))
                have bd := (db.out.1 _ (gw_mem2 lB k (by rw [HNB.out]; exact hlt))).1
                obtain ⟨x, hx⟩ : ∃ x, gw lB k = x := ⟨_, rfl⟩
                rw [hx] at y1 y2 y3 MT bd
                have wl : IntKind.i64.wrap ((x.2.1 : Int) + (L : Int)) = (x.2.1 : Int) + (L : Int) := IntWalk.i64_in _ ⟨by omega, by omega⟩
                obtain ⟨M, hM⟩ : ∃ M, lA ++ (lB.take k).map (shW L) = M := ⟨_, rfl⟩
                have HM := hid hM
                have hml : Hid (M.length = nA + k) := hid (by rw [← hM, List.length_append, List.length_map, List.length_take, HNA.out, HNB.out]; omega)
                rw [hM] at XX
                unfold maxLen at hmx
                clear hcc hx hM
                go_wp2_with fail
                refine wp_region_text [0,0,0,0,0,0,0,0,0,0,0,0,0,0,0,0,0,0,0,2,2,0] (fun W => W.cell? ⟨g, o + k * 3, none⟩ = some (.string (bs x.1)) ∧ W.cell? ⟨g, o + k * 3 + 1, none⟩ = some (.int .i64 (x.2.1 : Int)) ∧ W.cell? ⟨g, o + k * 3 + 2, none⟩ = some (.int .i64 (x.2.2 : Int))) (by kernel_rfl) (by kernel_rfl) ⟨y1, y2, y3⟩ ?_
                repeat (first
                  | (refine' wpT_calm (v := _) (by rfl) (fun W hW => ?_) ?_; rotate_left
                     · ((try dsimp only at hW); go_simp; first | done | rfl)
                     simp only [Act.put, List.setIfInBounds_toArray, List.set_cons_zero, List.set_cons_succ])
                  | (refine' wpT_reads (v := _) (by rfl) ?_ ?_; rotate_left
                     · (go_simp; first | done | rfl)
                     simp only [Act.put, List.setIfInBounds_toArray, List.set_cons_zero, List.set_cons_succ])
                  | (refine wpT_skip (by rfl) rfl ?_; simp only [Act.put, List.setIfInBounds_toArray, List.set_cons_zero, List.set_cons_succ])
                  | (refine wpT_does (by rfl) (fun K hK => ?_); go_simp; refine hK _ _ ?_ ?_
                     · (trivial)
                     clear hK K; try simp only [Act.put, List.setIfInBounds_toArray, List.set_cons_zero, List.set_cons_succ])
                  | (refine wpT_last (by rfl) (fun K hK => ?_); go_simp; refine hK _ _ ?_; clear hK K)
                  | (refine wpT_nil ?_))
                refine wpT_does (by rfl) (fun K hK => ?_)
                go_simp
                have kc : Keep (fun _ => False) wr (wr.alloc (.cells #[.string (bs x.1), .int .i64 ((x.2.1 : Int) + (L : Int)), .int .i64 (x.2.2 : Int)] 32)).drew := ((Keep.refl _ _).alloc _).drew
                have own := XX.out.keep kc (fun _ _ h => h)
                have hsrc : ∀ j u, (flatW [(x.1, x.2.1 + L, x.2.2)])[j]? = some u → (wr.alloc (.cells #[.string (bs x.1), .int .i64 ((x.2.1 : Int) + (L : Int)), .int .i64 (x.2.2 : Int)] 32)).drew.cell? ((⟨wr.heap.size, 0, none⟩ : Addr).add j) = some u := fun j u hu => by
                  rw [add_off, Nat.zero_add]
                  exact (World.cell?_alloc_new wr _ _ _).trans (by simpa [flatW] using hu)
                have B1 := BB.out.keep kc (fun _ _ h => h)
                have Z1 := ZZ.out.keep kc (fun _ _ h => h)
                have z1 := (kc.cell (p := ⟨g, o + k * 3, none⟩) hg (fun h => h)).trans y1
                have z2 := (kc.cell (p := ⟨g, o + k * 3 + 1, none⟩) hg (fun h => h)).trans y2
                have z3 := (kc.cell (p := ⟨g, o + k * 3 + 2, none⟩) hg (fun h => h)).trans y3
                have hsc : (wr.alloc (.cells #[.string (bs x.1), .int .i64 ((x.2.1 : Int) + (L : Int)), .int .i64 (x.2.2 : Int)] 32)).drew.heap.size = wr.heap.size + 1 := World.size_alloc _ _
                refine hK _ _ ⟨z1, z2, z3⟩ ?_
                clear hK K y1 y2 y3
                try simp only [Act.put, List.setIfInBounds_toArray, List.set_cons_zero, List.set_cons_succ]
                repeat (first
                  | (refine' wpT_calm (v := _) (by rfl) (fun W hW => ?_) ?_; rotate_left
                     · ((try dsimp only at hW); go_simp; first | done | rfl)
                     simp only [Act.put, List.setIfInBounds_toArray, List.set_cons_zero, List.set_cons_succ])
                  | (refine' wpT_reads (v := _) (by rfl) ?_ ?_; rotate_left
                     · (go_simp; first | done | rfl)
                     simp only [Act.put, List.setIfInBounds_toArray, List.set_cons_zero, List.set_cons_succ])
                  | (refine wpT_skip (by rfl) rfl ?_; simp only [Act.put, List.setIfInBounds_toArray, List.set_cons_zero, List.set_cons_succ])
                  | (refine wpT_does (by rfl) (fun K hK => ?_); go_simp; refine hK _ _ ?_ ?_
                     · (trivial)
                     clear hK K; try simp only [Act.put, List.setIfInBounds_toArray, List.set_cons_zero, List.set_cons_succ])
                  | (refine wpT_last (by rfl) (fun K hK => ?_); go_simp; refine hK _ _ ?_; clear hK K)
                  | (refine wpT_nil ?_))
                refine wpT_does (by rfl) (fun K hK => ?_)
                refine wp_append_xw _ (.tmp 102) (.tmp 121) rfl _ M rfl own ⟨wr.heap.size, 0, none⟩ 1 (x.1, x.2.1 + L, x.2.2) rfl hsrc (by rw [hml.out]; omega) ?_
                intro u Y of f1 k1
                have q1 : Y.cell? ⟨g, o + k * 3, none⟩ = some (.string (bs x.1)) := (k1.cell (p := ⟨g, o + k * 3, none⟩) (by rw [hsc]; dsimp only; omega) (fun h => (SS.out g h.2).2.1 rfl)).trans z1
                have q2 : Y.cell? ⟨g, o + k * 3 + 1, none⟩ = some (.int .i64 (x.2.1 : Int)) := (k1.cell (p := ⟨g, o + k * 3 + 1, none⟩) (by rw [hsc]; dsimp only; omega) (fun h => (SS.out g h.2).2.1 rfl)).trans z2
                have q3 : Y.cell? ⟨g, o + k * 3 + 2, none⟩ = some (.int .i64 (x.2.2 : Int)) := (k1.cell (p := ⟨g, o + k * 3 + 2, none⟩) (by rw [hsc]; dsimp only; omega) (fun h => (SS.out g h.2).2.1 rfl)).trans z3
                have BY := hid (B1.keep k1 (fun y hy h => (SS.out y h.2).2.1 hy))
                have ZY := hid (Z1.keep k1 (fun y hy h => (SS.out y h.2).2.2 hy))
                have KY := hid ((KK.out.trans kc).then k1 (fun y h => .inr (SS.out y h.2).1))
                have SY : Hid (w3.heap.size ≤ Y.heap.size) := hid (by have h1 := k1.size; rw [hsc] at h1; omega)
                have SU : ∀ y, u.ownBlock = some y → w.heap.size ≤ y ∧ (Value.slice (some ⟨g, o, none⟩) nB c2).ownBlock ≠ some y ∧ (Value.slice a3 lZ.length c3).ownBlock ≠ some y := fun y hy => (f1 y hy).elim (fun h => SS.out y h.2) (fun h => by
                  have h : wr.heap.size + 1 ≤ y := by rw [← hsc]; exact h
                  have h1 := KK.out.size
                  refine ⟨by omega, fun e => ?_, fun e => ?_⟩
                  · have e2 : g = y := Option.some.inj e
                    omega
                  · have := L3.out y e; omega)
                have OU := hid of
                obtain ⟨au, cu, hu⟩ := of.form
                rw [List.length_append, hml.out] at hu
                subst hu
                have SU := hid SU
                refine hK _ _ ⟨q1, q2, q3⟩ ?_
                clear hK K kc own hsrc B1 Z1 z1 z2 z3 hsc of f1 k1
                try simp only [Act.put, List.setIfInBounds_toArray, List.set_cons_zero, List.set_cons_succ]
                repeat (first
                  | (refine' wpT_calm (v := _) (by rfl) (fun W hW => ?_) ?_; rotate_left
                     · ((try dsimp only at hW); go_simp; first | done | rfl)
                     simp only [Act.put, List.setIfInBounds_toArray, List.set_cons_zero, List.set_cons_succ])
                  | (refine' wpT_reads (v := _) (by rfl) ?_ ?_; rotate_left
                     · (go_simp; first | done | rfl)
                     simp only [Act.put, List.setIfInBounds_toArray, List.set_cons_zero, List.set_cons_succ])
                  | (refine wpT_skip (by rfl) rfl ?_; simp only [Act.put, List.setIfInBounds_toArray, List.set_cons_zero, List.set_cons_succ])
                  | (refine wpT_does (by rfl) (fun K hK => ?_); go_simp; refine hK _ _ ?_ ?_
                     · (trivial)
                     clear hK K; try simp only [Act.put, List.setIfInBounds_toArray, List.set_cons_zero, List.set_cons_succ])
                  | (refine wpT_last (by rfl) (fun K hK => ?_); go_simp; refine hK _ _ ?_; clear hK K)
                  | (refine wpT_nil ?_))
                go_wp2_with fail
                refine ⟨⟨_, _, _, _, _, _, _, _, _, _, _, _, _, _, _, _, _, _, _, _, _, _, _, _, _, _, _, _, _, ?rel, rfl⟩, ?measure⟩
                case rel => exact ⟨k + 1, au, cu, by omega, by go_num, rfl, by rw [MT.out, ← List.append_assoc, HM.out]; exact .inr OU.out, SU.out, KY.out, BY.out, ZY.out, SY.out⟩
                case measure => simp [intOf]; omega
              · obtain rfl : k = nB := by omega
                have hlt' : ¬ (k : Int) < (k : Int) := by omega
                have XQ : ReadW wr (.slice ax (nA + k) cx) lZ := by
                  have := XX.out.reads
                  rw [show lB.take k = lB from List.take_of_length_le (Nat.le_of_eq HNB.out), ← QZ.out] at this
                  exact this
                have XQ := hid XQ
                clear hlt hk
                go_wp2_with fail
                refine (lawake_any _).mono ?_
                rintro _ w4 ⟨rfl, k4⟩
                have K4 := hid (KK.out.trans k4)
                have AK := alike_any (ZZ.out.keep k4 (fun _ _ h => h)) (XQ.out.keep k4 (fun _ _ h => h))
                rw [show decide (lZ = lZ) = true from decide_eq_true rfl] at AK
                have AK := hid AK
                clear k4 KK
                go_wp2_with fail
                refine AK.out.mono ?_
                rintro _ w5 ⟨rfl, k5⟩
                have K5 := hid (K4.out.trans k5)
                clear k5 K4 AK
                go_wp2_with fail
                go_ret
                exact ⟨rfl, K5.out.below (fun _ h => h.elim) (Nat.le_refl _)⟩
          · have hf' : ((eB : Int) != 0) = true := by simp; omega
            obtain ⟨q1, q2, q3⟩ := LT.out.2.1 trivial hf
            have pb := db.out.2.2.2.1
            have e1 : ((eZ : Int) == (eB : Int)) = true := by simp; omega
            have e2 : ((pZ : Int) == (pB : Int) + (L : Int)) = true := by simp; omega
            have e3 : ((cZ : Int) == (cB : Int)) = true := by simp; omega
            have wp : IntKind.i64.wrap ((pB : Int) + (L : Int)) = (pB : Int) + (L : Int) := IntWalk.i64_in _ ⟨by omega, by omega⟩
            clear LT q1 q2 q3 hf
            go_wp2_with fail
            refine (lawake_any _).mono ?_
            rintro _ w4 ⟨rfl, k4⟩
            have K4 := hid (K3.out.trans k4)
            clear k4 K3
            go_wp2_with fail
            go_ret
            exact ⟨rfl, K4.out.below (fun _ h => h.elim) (Nat.le_refl _)⟩
    · have he' : ((eA : Int) != 0) = true := by simp; omega
      obtain ⟨hz1, hz2⟩ := LT.out.1 he
      have hzz : ((eZ : Int) == (eA : Int)) = true := by simp; omega
      have hl0 : lZ.length = 0 := by rw [hz2]; rfl
      have hl1 : ((lZ.length : Int) == 0) = true := by simp [hl0]
      clear LT hz1 hz2 hl0 he
      go_wp2_with fail
      refine (lawake_any _).mono ?_
      rintro _ w4 ⟨rfl, k4⟩
      have K4 := hid (K3.out.trans k4)
      clear k4 K3
      go_wp2_with fail
      go_ret
      exact ⟨rfl, K4.out.below (fun _ h => h.elim) (Nat.le_refl _)⟩
theorem size_list (A : ByteArray) : A.toList.length = A.size := by rw [← bs_size, bs_of]
theorem walk_LexTwo (w : World) (A : ByteArray) (hA : A.size ≤ 140737488351232) (B : ByteArray) (hB : B.size ≤ 140737488351232) :
    Calls Try.prog 4 #[.string A, .string B] w fun e w' => e = .returned (.bool true) ∧ Below w.heap.size w w' := by
  have := walk_LexTwo' w A.toList B.toList (by rw [size_list]; exact hA) (by rw [size_list]; exact hB)
  rwa [bs_of, bs_of] at this
end Go.Proofs.Ytknlhbbkjgkjpaa
