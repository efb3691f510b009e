/- The walks of the reference's buffer: New, Put, Deliver. -/
import Derived.Test.YteobmdkghdjapaaBufD
import Derived.Test.YteobmdkghdjapaaOwn
namespace Go.Proofs.Yteobmdkghdjapaa
open Go.RowKit

/-- Block b is the reference's buffer with the slice v, that holds l, for at most m. -/
structure IsRef (w : World) (b : Nat) (v : Value) (l : List (Int × Int)) (m : Nat) : Prop where
  row : ∃ c, w.heap[b]? = some (.cells c 34 (0, 0))
  list : w.cell? ⟨b, 0, none⟩ = some v
  most : w.cell? ⟨b, 1, none⟩ = some (.int .i64 m)
  own : Wakes w v l
  ne : v.ownBlock ≠ some b

theorem IsRef.lt {w : World} {b : Nat} {v : Value} {l : List (Int × Int)} {m : Nat} (h : IsRef w b v l m) : b < w.heap.size := by
  obtain ⟨c, hc⟩ := h.row; exact lt_of_heap hc

theorem IsRef.fro {w : World} {b : Nat} {v : Value} {l : List (Int × Int)} {m : Nat} (h : IsRef w b v l m) (o : Nat) : w.frozen? ⟨b, o, none⟩ = false := by
  obtain ⟨c, hc⟩ := h.row
  simp [World.frozen?, hc]

theorem IsRef.keep {F : Nat → Prop} {w w' : World} {b : Nat} {v : Value} {l : List (Int × Int)} {m : Nat} (h : IsRef w b v l m) (hK : Keep F w w') (hF : ¬ F b) (hG : ∀ k, v.ownBlock = some k → ¬ F k) : IsRef w' b v l m := by
  have e := hK.block b h.lt hF
  have c : ∀ o, w'.cell? ⟨b, o, none⟩ = w.cell? ⟨b, o, none⟩ := fun o => World.cell?_of_block (a := ⟨b, o, none⟩) e
  exact ⟨by rw [e]; exact h.row, (c _).trans h.list, (c _).trans h.most, owns_keep h.own hK hG, h.ne⟩

set_option maxHeartbeats 400000 in
theorem rnew_any (a : Int) (w : World) :
    Calls Try.prog 13 #[.int .i64 a] w fun e w' => e = .returned (.pointer (some ⟨w.heap.size, 0, none⟩)) ∧ IsRef w' w.heap.size (.slice none 0 0) [] (mostOf a) ∧ Keep (fun _ => False) w w' := by
  have fin : ∀ c : Int, c = (mostOf a : Nat) → IsRef (w.alloc (.cells #[.slice none 0 0, .int .i64 c] 34)) w.heap.size (.slice none 0 0) [] (mostOf a) ∧ Keep (fun _ => False) w (w.alloc (.cells #[.slice none 0 0, .int .i64 c] 34)) := by
    intro c hc
    subst hc
    exact ⟨⟨⟨_, heap_alloc_new w _⟩, by rw [World.cell?_alloc_new]; rfl, by rw [World.cell?_alloc_new]; rfl, World.ownsRow_nil _ _ _ _, by simp [Value.ownBlock]⟩, (Keep.refl _ _).alloc _⟩
  have F := hid fin
  clear fin
  by_cases h0 : a < 0
  · go_enter Try.func13, Try.ntmps13
    go_wp2
    go_ret
    exact ⟨rfl, F.out 0 (by unfold mostOf; split <;> omega)⟩
  · by_cases h8 : 8 < a
    · go_enter Try.func13, Try.ntmps13
      go_wp2
      go_ret
      exact ⟨rfl, F.out 8 (by unfold mostOf; split <;> omega)⟩
    · go_enter Try.func13, Try.ntmps13
      go_wp2
      go_ret
      exact ⟨rfl, F.out a (by unfold mostOf; split <;> omega)⟩

def RPutAns (b : Nat) (v : Value) (l : List (Int × Int)) (m : Nat) (t e : Int) (w : World) (en : Ending) (w' : World) : Prop :=
  ∃ (r : Bool) (v' : Value), en = .returned (.bool r) ∧ Keep (fun k => k = b) w w' ∧ (∀ k, v'.ownBlock = some k → v.ownBlock = some k ∨ w.heap.size ≤ k) ∧
    ((r = false ∧ (m ≤ l.length ∨ ∃ i, i < l.length ∧ (at2 l i).1 = t) ∧ IsRef w' b v' l m) ∨ (r = true ∧ l.length < m ∧ (∀ i, i < l.length → (at2 l i).1 ≠ t) ∧ IsRef w' b v' (l ++ [(t, e)]) m))

theorem rput_fin {b : Nat} {v v2 : Value} {l : List (Int × Int)} {m : Nat} {w W : World} {t e : Int} (hI : IsRef w b v l m) (hK : Keep (fun _ => False) w W) (hv : W.ownsRow 0 31 2 v2 (l.length + 1) (flat2 l ++ [.int .i64 t, .int .i64 e])) (hf : ∀ k, v2.ownBlock = some k → w.heap.size ≤ k) :
    IsRef (W.setCell ⟨b, 0, none⟩ v2) b v2 (l ++ [(t, e)]) m ∧ Keep (fun k => k = b) w (W.setCell ⟨b, 0, none⟩ v2) := by
  have hb := hI.lt
  have hI' := hI.keep hK (fun h => h) (fun _ _ h => h)
  obtain ⟨c, hc⟩ := hI'.row
  have hne : v2.ownBlock ≠ some b := fun h => by have := hf b h; omega
  refine ⟨⟨⟨c.setIfInBounds 0 v2, by simp [World.setCell, Array.getElem?_modify, hc]⟩, ?_, ?_, ?_, hne⟩, (hK.mono fun _ _ h => h.elim).setOwn _⟩
  · exact World.cell?_setCell_same _ _ _ hI'.list
  · rw [World.cell?_setCell_other _ _ _ _ (by simp)]; exact hI'.most
  · unfold Wakes
    rw [flat2_append, List.length_append]
    refine owns_block hv fun k hk => Below.heap_setCell _ _ _ _ fun e => ?_
    subst e
    exact hne hk

theorem made_row (w : World) : (w.alloc (.cells #[] 31)).ownsRow 0 31 2 (.slice (some ⟨w.heap.size, 0, none⟩) 0 0) 0 [] := World.ownsRow_made w #[] 0 (Nat.zero_le _) (by simp [maxLen]) (by simp)

theorem one_src (w : World) (t e : Int) : Src (w.alloc (.cells #[.int .i64 t, .int .i64 e] 31)) (.slice (some ⟨w.heap.size, 0, none⟩) 1 1) 1 2 [.int .i64 t, .int .i64 e] := by
  refine .inr ⟨_, _, rfl, rfl, fun j u hu => ?_, by simp [Value.oneCell']⟩
  have hadd : (⟨w.heap.size, 0, none⟩ : Addr).add j = ⟨w.heap.size, j, none⟩ := by unfold Addr.add; split <;> simp_all
  rw [hadd, World.cell?_alloc_new]
  simpa using hu

set_option maxHeartbeats 1000000 in
theorem rput_any {b : Nat} {v : Value} {l : List (Int × Int)} {m : Nat} {w : World} (t e : Int) (h : IsRef w b v l m) (hn : l.length ≤ 1000) :
    Calls Try.prog 15 #[.pointer (some ⟨b, 0, none⟩), .agg #[.int .i64 t, .int .i64 e]] w (RPutAns b v l m t e w) := by
  have hb : b < w.heap.size := h.lt
  have h1 := h.list
  have h2 := h.most
  have hl8 : (l.length : Int) ≤ 1000 := by omega
  have hr := h.own.reads
  obtain ⟨a0, c0, hv⟩ := owns_form h.own
  have H := hid h
  have HV := hid hv
  obtain ⟨i0, hi, hz0, hz1, hz2⟩ := info_parts Try.info31
  have hi := hid hi
  have hz0 := hid hz0
  have hz1 := hid hz1
  have hz2 := hid hz2
  rw [hv] at h1
  have HR := hid hr
  clear h hr hv
  go_enter Try.func15, Try.ntmps15
  go_wp2
  go_loopw [5] (fun i wr => ∃ k : Nat, k ≤ l.length ∧ i = .int .i64 k ∧ (∀ j, j < k → (at2 l j).1 ≠ t) ∧ Keep (fun _ => False) (w.alloc (.cells #[.int .i64 t, .int .i64 e] 31)) wr) (fun i _ => l.length - (intOf i).toNat)
  case atStart => exact ⟨0, by omega, rfl, fun j h => absurd h (Nat.not_lt_zero j), Keep.refl _ _⟩
  case round =>
    obtain ⟨k, hk, rfl, hno, hK⟩ := hrel
    have hK0 := ((Keep.refl (fun _ => False) w).alloc (.cells #[.int .i64 t, .int .i64 e] 31)).trans hK
    have hI := H.out.keep hK0 (fun h => h) (fun _ _ h => h)
    have hbr := hI.lt
    have hf0 := hI.fro 0
    have h1 : wr.cell? ⟨b, 0, none⟩ = some (.slice a0 l.length c0) := by rw [hI.list, HV.out]
    have h2 := hI.most
    have x1 : wr.cell? ⟨w.heap.size, 0, none⟩ = some (.int .i64 t) := (hK.cell (p := ⟨w.heap.size, 0, none⟩) (by simp) (fun h => h)).trans (by rw [World.cell?_alloc_new]; rfl)
    have x2 : wr.cell? ⟨w.heap.size, 1, none⟩ = some (.int .i64 e) := (hK.cell (p := ⟨w.heap.size, 1, none⟩) (by simp) (fun h => h)).trans (by rw [World.cell?_alloc_new]; rfl)
    have HK := hid hK
    have HK0 := hid hK0
    have HN := hid hno
    have HI := hid hI
    by_cases hlt : k < l.length
    · obtain ⟨g, off, cap, hgv, hg, _, hcs⟩ : ∃ g off cap, v = .slice (some ⟨g, off, none⟩) l.length cap ∧ g < w.heap.size ∧ l.length ≤ maxLen ∧
          ∀ i, i < l.length → w.cell? ⟨g, off + i * 2, none⟩ = some (.int .i64 (at2 l i).1) ∧ w.cell? ⟨g, off + i * 2 + 1, none⟩ = some (.int .i64 (at2 l i).2) := by
        rcases HR.out with ⟨_, h⟩ | h
        · rw [h] at hlt; simp at hlt
        · exact h
      have hav : a0 = some ⟨g, off, none⟩ := by rw [HV.out] at hgv; cases hgv; rfl
      have k1 := (hK0.cell (p := ⟨g, off + k * 2, none⟩) hg (fun h => h)).trans (hcs k hlt).1
      rw [hav] at h1
      clear hK hK0 hno hI hcs hgv hav
      go_wp2
      refine wp_region_text [0,0,0,1,0,0,0,1,0,1,0] (fun _ => True) (by kernel_rfl) (by kernel_rfl) trivial ?_
      repeat (first
        | (refine' wpT_calm (v := _) (by rfl) (fun W hW => ?_) ?_; rotate_left
           · ((try dsimp only at hW); go_simp; first | done | rfl)
           simp only [Act.put, List.setIfInBounds_toArray, List.set_cons_zero, List.set_cons_succ])
        | (refine' wpT_reads (v := _) (by rfl) ?_ ?_; rotate_left
           · (go_simp; first | done | rfl)
           simp only [Act.put, List.setIfInBounds_toArray, List.set_cons_zero, List.set_cons_succ])
        | (refine wpT_skip (by rfl) rfl ?_; simp only [Act.put, List.setIfInBounds_toArray, List.set_cons_zero, List.set_cons_succ])
        | (refine wpT_does (by rfl) (fun K hK => ?_); go_simp; refine hK _ _ ?_ ?_
           · (trivial)
           clear hK K; try simp only [Act.put, List.setIfInBounds_toArray, List.set_cons_zero, List.set_cons_succ])
        | (refine wpT_last (by rfl) (fun K hK => ?_); go_simp; refine hK _ _ ?_; clear hK K)
        | (refine wpT_nil ?_))
      go_wp2
      · have ht : ((at2 l k).1 == t) = true := by assumption
        go_ret
        refine ⟨false, v, rfl, ?_, fun k hk => .inl hk, .inl ⟨rfl, .inr ⟨k, hlt, by simpa using ht⟩, HI.out.keep ((Keep.refl (fun _ => False) _).drew) (fun h => h) (fun _ _ h => h)⟩⟩
        exact HK0.out.drew.mono (fun _ _ h => h.elim)
      · have ht : ((at2 l k).1 == t) = false := by assumption
        go_roundw
        case rel =>
          refine ⟨k + 1, by omega, by go_num, fun j hj => ?_, HK.out.drew⟩
          by_cases e : j = k
          · subst e; simpa using ht
          · exact HN.out j (by omega)
        case measure => simp [intOf]; omega
    · have hkl : k = l.length := by omega
      by_cases hm : m ≤ l.length
      · clear hK hK0 hno hI
        go_wp2
        refine wp_region_text [0,0,0,1,0,0,0,0,1,0] (fun _ => True) (by kernel_rfl) (by kernel_rfl) trivial ?_
        repeat (first
          | (refine' wpT_calm (v := _) (by rfl) (fun W hW => ?_) ?_; rotate_left
             · ((try dsimp only at hW); go_simp; first | done | rfl)
             simp only [Act.put, List.setIfInBounds_toArray, List.set_cons_zero, List.set_cons_succ])
          | (refine' wpT_reads (v := _) (by rfl) ?_ ?_; rotate_left
             · (go_simp; first | done | rfl)
             simp only [Act.put, List.setIfInBounds_toArray, List.set_cons_zero, List.set_cons_succ])
          | (refine wpT_skip (by rfl) rfl ?_; simp only [Act.put, List.setIfInBounds_toArray, List.set_cons_zero, List.set_cons_succ])
          | (refine wpT_does (by rfl) (fun K hK => ?_); go_simp; refine hK _ _ ?_ ?_
             · (trivial)
             clear hK K; try simp only [Act.put, List.setIfInBounds_toArray, List.set_cons_zero, List.set_cons_succ])
          | (refine wpT_last (by rfl) (fun K hK => ?_); go_simp; refine hK _ _ ?_; clear hK K)
          | (refine wpT_nil ?_))
        go_wp2
        go_ret
        exact ⟨false, v, rfl, HK0.out.drew.mono (fun _ _ h => h.elim), fun k hk => .inl hk, .inl ⟨rfl, .inl hm, HI.out.keep ((Keep.refl (fun _ => False) _).drew) (fun h => h) (fun _ _ h => h)⟩⟩
      · clear hK hK0 hno hI
        go_wp2
        refine wp_region_text [0,0,0,1,0,0,0,0,1,0] (fun _ => True) (by kernel_rfl) (by kernel_rfl) trivial ?_
        repeat (first
          | (refine' wpT_calm (v := _) (by rfl) (fun W hW => ?_) ?_; rotate_left
             · ((try dsimp only at hW); go_simp; first | done | rfl)
             simp only [Act.put, List.setIfInBounds_toArray, List.set_cons_zero, List.set_cons_succ])
          | (refine' wpT_reads (v := _) (by rfl) ?_ ?_; rotate_left
             · (go_simp; first | done | rfl)
             simp only [Act.put, List.setIfInBounds_toArray, List.set_cons_zero, List.set_cons_succ])
          | (refine wpT_skip (by rfl) rfl ?_; simp only [Act.put, List.setIfInBounds_toArray, List.set_cons_zero, List.set_cons_succ])
          | (refine wpT_does (by rfl) (fun K hK => ?_); go_simp; refine hK _ _ ?_ ?_
             · (trivial)
             clear hK K; try simp only [Act.put, List.setIfInBounds_toArray, List.set_cons_zero, List.set_cons_succ])
          | (refine wpT_last (by rfl) (fun K hK => ?_); go_simp; refine hK _ _ ?_; clear hK K)
          | (refine wpT_nil ?_))
        have hx : w.heap.size < wr.heap.size := Nat.lt_of_lt_of_le (by simp) HK.out.size
        have hx0 := Nat.ne_of_lt hx
        have hb0 := Nat.ne_of_lt hbr
        have hbx : b ≠ w.heap.size := by omega
        go_wp2
        refine wp_region_steps [0,2,0,0,0,0,2,0,2,2,0,0,3] (fun W : World => W.cell? ⟨b, 0, none⟩ = some (.slice a0 l.length c0) ∧ W.cell? ⟨w.heap.size, 0, none⟩ = some (.int .i64 t) ∧ W.cell? ⟨w.heap.size, 1, none⟩ = some (.int .i64 e)) (by kernel_rfl) ⟨h1, x1, x2⟩ ?_
        refine' anyX_calm (v := _) 0 rfl (by kernel_rfl) (by rfl) (fun W hW => ?_) ?_; rotate_left
        · ((try dsimp only at hW); go_simp; first | done | rfl)
        try simp only [Act.put, List.setIfInBounds_toArray, List.set_cons_zero, List.set_cons_succ]
        refine' anyX_calm (v := _) 2 rfl (by kernel_rfl) (by rfl) (fun W hW => ?_) ?_; rotate_left
        · ((try dsimp only at hW); go_simp; first | done | rfl)
        try simp only [Act.put, List.setIfInBounds_toArray, List.set_cons_zero, List.set_cons_succ]
        refine' anyX_calm (v := _) 3 rfl (by kernel_rfl) (by rfl) (fun W hW => ?_) ?_; rotate_left
        · ((try dsimp only at hW); go_simp; first | done | rfl)
        try simp only [Act.put, List.setIfInBounds_toArray, List.set_cons_zero, List.set_cons_succ]
        refine' anyX_calm (v := _) 4 rfl (by kernel_rfl) (by rfl) (fun W hW => ?_) ?_; rotate_left
        · ((try dsimp only at hW); go_simp; first | done | rfl)
        try simp only [Act.put, List.setIfInBounds_toArray, List.set_cons_zero, List.set_cons_succ]
        refine' anyX_calm (v := _) 5 rfl (by kernel_rfl) (by rfl) (fun W hW => ?_) ?_; rotate_left
        · ((try dsimp only at hW); go_simp; first | done | rfl)
        try simp only [Act.put, List.setIfInBounds_toArray, List.set_cons_zero, List.set_cons_succ]
        refine' anyX_calm (v := _) 7 rfl (by kernel_rfl) (by rfl) (fun W hW => ?_) ?_; rotate_left
        · ((try dsimp only at hW); go_simp; first | done | rfl)
        try simp only [Act.put, List.setIfInBounds_toArray, List.set_cons_zero, List.set_cons_succ]
        refine anyX_two 1 8 rfl rfl (by kernel_rfl) rfl rfl (by rfl) (by rfl) (fun K hK => ?_) (fun K hK => ?_)
        · -- the empty row first
          go_simp
          have K1 : Keep (fun _ => False) wr (wr.alloc (.cells #[] 31)).drew.drew := ((Keep.refl _ _).alloc _).drew.drew
          have hrow := made_row wr
          have hsrc := (owns_src HI.out.own (flat2_one l)).keep K1 (fun _ _ h => h)
          rw [HV.out] at hsrc
          refine hK _ _ ⟨(K1.cell (p := ⟨b, 0, none⟩) hbr (fun h => h)).trans h1, (K1.cell (p := ⟨w.heap.size, 0, none⟩) hx (fun h => h)).trans x1, (K1.cell (p := ⟨w.heap.size, 1, none⟩) hx (fun h => h)).trans x2⟩ ?_
          clear hK K
          try simp only [Act.put, List.setIfInBounds_toArray, List.set_cons_zero, List.set_cons_succ]
          refine anyX_two 6 8 rfl rfl (by kernel_rfl) rfl rfl (by rfl) (by rfl) (fun K hK => ?_) (fun K hK => ?_)
          · refine wp_append_src _ (.tmp 37) (.tmp 41) 22 rfl 0 31 i0 (.agg #[.int .i64 0, .int .i64 0]) 2 16 Try.underlying22 hi.out hz0.out hz1.out hz2.out rfl (by decide) _ 0 [] rfl hrow _ l.length (flat2 l) rfl hsrc (by unfold maxLen; omega) (by omega) (Nat.zero_le _) ?_
            intro v1 W1 o1 g1 f1
            have K2 : Keep (fun _ => False) wr W1 := K1.grown g1 (fun k hk => .inr (Nat.le_of_eq (Option.some.inj hk)))
            have F1 : ∀ k, v1.ownBlock = some k → wr.heap.size ≤ k := fun k hk => by
              rcases f1 k hk with h | h
              · exact Nat.le_of_eq (Option.some.inj h)
              · simp at h; omega
            have hs1 := K2.size
            refine hK _ _ ⟨(K2.cell (p := ⟨b, 0, none⟩) hbr (fun h => h)).trans h1, (K2.cell (p := ⟨w.heap.size, 0, none⟩) hx (fun h => h)).trans x1, (K2.cell (p := ⟨w.heap.size, 1, none⟩) hx (fun h => h)).trans x2⟩ ?_
            clear hK K hrow hsrc
            try simp only [Act.put, List.setIfInBounds_toArray, List.set_cons_zero, List.set_cons_succ]
            refine anyX_does 8 rfl (by kernel_rfl) (by rfl) (fun K hK => ?_)
            go_simp
            have K3 : Keep (fun _ => False) wr (W1.alloc (.cells #[.int .i64 t, .int .i64 e] 31)) := K2.alloc _
            have hsrc := one_src W1 t e
            have hrow := o1.alloc (.cells #[.int .i64 t, .int .i64 e] 31)
            refine hK _ _ ⟨(K3.cell (p := ⟨b, 0, none⟩) hbr (fun h => h)).trans h1, (K3.cell (p := ⟨w.heap.size, 0, none⟩) hx (fun h => h)).trans x1, (K3.cell (p := ⟨w.heap.size, 1, none⟩) hx (fun h => h)).trans x2⟩ ?_
            clear hK K
            try simp only [Act.put, List.setIfInBounds_toArray, List.set_cons_zero, List.set_cons_succ]
            refine anyX_does 9 rfl (by kernel_rfl) (by rfl) (fun K hK => ?_)
            refine wp_append_src _ (.tmp 42) (.tmp 44) 22 rfl 0 31 i0 (.agg #[.int .i64 0, .int .i64 0]) 2 16 Try.underlying22 hi.out hz0.out hz1.out hz2.out rfl (by decide) v1 l.length (flat2 l) rfl (by simpa using hrow) _ 1 _ rfl hsrc (by unfold maxLen; omega) (by omega) (Nat.zero_le _) ?_
            intro v2 W2 o2 g2 f2
            have K4 : Keep (fun _ => False) wr W2 := K3.grown g2 (fun k hk => .inr (F1 k hk))
            have F2 : ∀ k, v2.ownBlock = some k → wr.heap.size ≤ k := fun k hk => by
              rcases f2 k hk with h | h
              · exact F1 k h
              · have := K3.size; omega
            obtain ⟨a2, c2, rfl⟩ := owns_form o2
            have fin := rput_fin (t := t) (e := e) HI.out K4 o2 F2
            refine hK _ _ ⟨(K4.cell (p := ⟨b, 0, none⟩) hbr (fun h => h)).trans h1, (K4.cell (p := ⟨w.heap.size, 0, none⟩) hx (fun h => h)).trans x1, (K4.cell (p := ⟨w.heap.size, 1, none⟩) hx (fun h => h)).trans x2⟩ ?_
            clear hK K hrow hsrc o1 g1 f1 o2 g2 f2
            have h1' := (K4.cell (p := ⟨b, 0, none⟩) hbr (fun h => h)).trans h1
            have hf' := (K4.frozen (p := ⟨b, 0, none⟩) hbr (fun h => h)).trans hf0
            have FIN := hid fin
            have K5 := hid K4
            have F3 := hid F2
            clear fin K4 F2 K3 K2 K1 F1 h1 x1 x2 h2
            try simp only [Act.put, List.setIfInBounds_toArray, List.set_cons_zero, List.set_cons_succ]
            refine' anyX_calm (v := _) 10 rfl (by kernel_rfl) (by rfl) (fun W hW => ?_) ?_; rotate_left
            · ((try dsimp only at hW); go_simp; first | done | rfl)
            try simp only [Act.put, List.setIfInBounds_toArray, List.set_cons_zero, List.set_cons_succ]
            refine' anyX_calm (v := _) 11 rfl (by kernel_rfl) (by rfl) (fun W hW => ?_) ?_; rotate_left
            · ((try dsimp only at hW); go_simp; first | done | rfl)
            try simp only [Act.put, List.setIfInBounds_toArray, List.set_cons_zero, List.set_cons_succ]
            refine anyX_last 12 rfl (by kernel_rfl) (by rfl) (fun K hK => ?_)
            go_simp
            refine hK _ _ ?_
            clear hK K
            go_wp2
            go_ret
            refine ⟨true, _, rfl, ?_, fun k hk => ?_, .inr ⟨rfl, by omega, fun i hi => HN.out i (by omega), FIN.out.1⟩⟩
            · exact (HK0.out.mono (fun _ _ h => h.elim)).trans FIN.out.2
            · exact .inr (by have := F3.out k hk; omega)

          · go_simp
            have K2 : Keep (fun _ => False) wr ((wr.alloc (.cells #[] 31)).alloc (.cells #[.int .i64 t, .int .i64 e] 31)).drew.drew := (((Keep.refl _ _).alloc _).alloc _).drew.drew
            have hsrc1 : Src ((wr.alloc (.cells #[] 31)).alloc (.cells #[.int .i64 t, .int .i64 e] 31)).drew.drew (.slice (some ⟨wr.heap.size + 1, 0, none⟩) 1 1) 1 2 [.int .i64 t, .int .i64 e] := by
              have := one_src (wr.alloc (.cells #[] 31)) t e
              rw [World.size_alloc] at this
              exact this
            have hrow0 := (made_row wr).alloc (.cells #[.int .i64 t, .int .i64 e] 31)
            have hsrcv := (owns_src HI.out.own (flat2_one l)).keep K2 (fun _ _ h => h)
            rw [HV.out] at hsrcv
            refine hK _ _ ⟨(K2.cell (p := ⟨b, 0, none⟩) hbr (fun h => h)).trans h1, (K2.cell (p := ⟨w.heap.size, 0, none⟩) hx (fun h => h)).trans x1, (K2.cell (p := ⟨w.heap.size, 1, none⟩) hx (fun h => h)).trans x2⟩ ?_
            clear hK K hrow hsrc
            try simp only [Act.put, List.setIfInBounds_toArray, List.set_cons_zero, List.set_cons_succ]
            refine anyX_does 6 rfl (by kernel_rfl) (by rfl) (fun K hK => ?_)
            refine wp_append_src _ (.tmp 37) (.tmp 41) 22 rfl 0 31 i0 (.agg #[.int .i64 0, .int .i64 0]) 2 16 Try.underlying22 hi.out hz0.out hz1.out hz2.out rfl (by decide) _ 0 [] rfl hrow0 _ l.length (flat2 l) rfl hsrcv (by unfold maxLen; omega) (by omega) (Nat.zero_le _) ?_
            intro v1 W1 o1 g1 f1
            have K3 : Keep (fun _ => False) wr W1 := K2.grown g1 (fun k hk => .inr (by have := Option.some.inj hk; dsimp only at this; omega))
            have F1 : ∀ k, v1.ownBlock = some k → wr.heap.size ≤ k := fun k hk => by
              rcases f1 k hk with h | h
              · have := Option.some.inj h; dsimp only at this; omega
              · simp at h; omega
            have hsrc := hsrc1.keep (Keep.of_grown g1) (fun k hk h => by have e1 := Option.some.inj hk; have e2 := Option.some.inj h; dsimp only at e1 e2; omega)
            have hrow := o1
            refine hK _ _ ⟨(K3.cell (p := ⟨b, 0, none⟩) hbr (fun h => h)).trans h1, (K3.cell (p := ⟨w.heap.size, 0, none⟩) hx (fun h => h)).trans x1, (K3.cell (p := ⟨w.heap.size, 1, none⟩) hx (fun h => h)).trans x2⟩ ?_
            clear hK K hsrc1 hsrcv hrow0
            try simp only [Act.put, List.setIfInBounds_toArray, List.set_cons_zero, List.set_cons_succ]
            refine anyX_does 9 rfl (by kernel_rfl) (by rfl) (fun K hK => ?_)
            refine wp_append_src _ (.tmp 42) (.tmp 44) 22 rfl 0 31 i0 (.agg #[.int .i64 0, .int .i64 0]) 2 16 Try.underlying22 hi.out hz0.out hz1.out hz2.out rfl (by decide) v1 l.length (flat2 l) rfl (by simpa using hrow) _ 1 _ rfl hsrc (by unfold maxLen; omega) (by omega) (Nat.zero_le _) ?_
            intro v2 W2 o2 g2 f2
            have K4 : Keep (fun _ => False) wr W2 := K3.grown g2 (fun k hk => .inr (F1 k hk))
            have F2 : ∀ k, v2.ownBlock = some k → wr.heap.size ≤ k := fun k hk => by
              rcases f2 k hk with h | h
              · exact F1 k h
              · have := K3.size; omega
            obtain ⟨a2, c2, rfl⟩ := owns_form o2
            have fin := rput_fin (t := t) (e := e) HI.out K4 o2 F2
            refine hK _ _ ⟨(K4.cell (p := ⟨b, 0, none⟩) hbr (fun h => h)).trans h1, (K4.cell (p := ⟨w.heap.size, 0, none⟩) hx (fun h => h)).trans x1, (K4.cell (p := ⟨w.heap.size, 1, none⟩) hx (fun h => h)).trans x2⟩ ?_
            clear hK K hrow hsrc o1 g1 f1 o2 g2 f2
            have h1' := (K4.cell (p := ⟨b, 0, none⟩) hbr (fun h => h)).trans h1
            have hf' := (K4.frozen (p := ⟨b, 0, none⟩) hbr (fun h => h)).trans hf0
            have FIN := hid fin
            have K5 := hid K4
            have F3 := hid F2
            clear fin K4 F2 K3 K2 K1 F1 h1 x1 x2 h2
            try simp only [Act.put, List.setIfInBounds_toArray, List.set_cons_zero, List.set_cons_succ]
            refine' anyX_calm (v := _) 10 rfl (by kernel_rfl) (by rfl) (fun W hW => ?_) ?_; rotate_left
            · ((try dsimp only at hW); go_simp; first | done | rfl)
            try simp only [Act.put, List.setIfInBounds_toArray, List.set_cons_zero, List.set_cons_succ]
            refine' anyX_calm (v := _) 11 rfl (by kernel_rfl) (by rfl) (fun W hW => ?_) ?_; rotate_left
            · ((try dsimp only at hW); go_simp; first | done | rfl)
            try simp only [Act.put, List.setIfInBounds_toArray, List.set_cons_zero, List.set_cons_succ]
            refine anyX_last 12 rfl (by kernel_rfl) (by rfl) (fun K hK => ?_)
            go_simp
            refine hK _ _ ?_
            clear hK K
            go_wp2
            go_ret
            refine ⟨true, _, rfl, ?_, fun k hk => ?_, .inr ⟨rfl, by omega, fun i hi => HN.out i (by omega), FIN.out.1⟩⟩
            · exact (HK0.out.mono (fun _ _ h => h.elim)).trans FIN.out.2
            · exact .inr (by have := F3.out k hk; omega)

        · go_simp
          have K1 : Keep (fun _ => False) wr (wr.alloc (.cells #[.int .i64 t, .int .i64 e] 31)).drew.drew := ((Keep.refl _ _).alloc _).drew.drew
          refine hK _ _ ⟨(K1.cell (p := ⟨b, 0, none⟩) hbr (fun h => h)).trans h1, (K1.cell (p := ⟨w.heap.size, 0, none⟩) hx (fun h => h)).trans x1, (K1.cell (p := ⟨w.heap.size, 1, none⟩) hx (fun h => h)).trans x2⟩ ?_
          clear hK K
          try simp only [Act.put, List.setIfInBounds_toArray, List.set_cons_zero, List.set_cons_succ]
          refine anyX_does 1 rfl (by kernel_rfl) (by rfl) (fun K hK => ?_)
          · go_simp
            have K2 : Keep (fun _ => False) wr ((wr.alloc (.cells #[.int .i64 t, .int .i64 e] 31)).alloc (.cells #[] 31)).drew.drew := (((Keep.refl _ _).alloc _).alloc _).drew.drew
            have hsrc1 : Src ((wr.alloc (.cells #[.int .i64 t, .int .i64 e] 31)).alloc (.cells #[] 31)).drew.drew (.slice (some ⟨wr.heap.size, 0, none⟩) 1 1) 1 2 [.int .i64 t, .int .i64 e] :=
              (one_src wr t e).keep (F := fun _ => False) ((Keep.refl _ _).alloc _).drew.drew (fun _ _ h => h)
            have hrow0 : ((wr.alloc (.cells #[.int .i64 t, .int .i64 e] 31)).alloc (.cells #[] 31)).drew.drew.ownsRow 0 31 2 (.slice (some ⟨wr.heap.size + 1, 0, none⟩) 0 0) 0 [] := by
              have := made_row (wr.alloc (.cells #[.int .i64 t, .int .i64 e] 31))
              rw [World.size_alloc] at this
              exact this
            have hsrcv := (owns_src HI.out.own (flat2_one l)).keep K2 (fun _ _ h => h)
            rw [HV.out] at hsrcv
            refine hK _ _ ⟨(K2.cell (p := ⟨b, 0, none⟩) hbr (fun h => h)).trans h1, (K2.cell (p := ⟨w.heap.size, 0, none⟩) hx (fun h => h)).trans x1, (K2.cell (p := ⟨w.heap.size, 1, none⟩) hx (fun h => h)).trans x2⟩ ?_
            clear hK K
            try simp only [Act.put, List.setIfInBounds_toArray, List.set_cons_zero, List.set_cons_succ]
            refine anyX_does 6 rfl (by kernel_rfl) (by rfl) (fun K hK => ?_)
            refine wp_append_src _ (.tmp 37) (.tmp 41) 22 rfl 0 31 i0 (.agg #[.int .i64 0, .int .i64 0]) 2 16 Try.underlying22 hi.out hz0.out hz1.out hz2.out rfl (by decide) _ 0 [] rfl hrow0 _ l.length (flat2 l) rfl hsrcv (by unfold maxLen; omega) (by omega) (Nat.zero_le _) ?_
            intro v1 W1 o1 g1 f1
            have K3 : Keep (fun _ => False) wr W1 := K2.grown g1 (fun k hk => .inr (by have := Option.some.inj hk; dsimp only at this; omega))
            have F1 : ∀ k, v1.ownBlock = some k → wr.heap.size ≤ k := fun k hk => by
              rcases f1 k hk with h | h
              · have := Option.some.inj h; dsimp only at this; omega
              · simp at h; omega
            have hsrc := hsrc1.keep (Keep.of_grown g1) (fun k hk h => by have e1 := Option.some.inj hk; have e2 := Option.some.inj h; dsimp only at e1 e2; omega)
            have hrow := o1
            refine hK _ _ ⟨(K3.cell (p := ⟨b, 0, none⟩) hbr (fun h => h)).trans h1, (K3.cell (p := ⟨w.heap.size, 0, none⟩) hx (fun h => h)).trans x1, (K3.cell (p := ⟨w.heap.size, 1, none⟩) hx (fun h => h)).trans x2⟩ ?_
            clear hK K hsrc1 hsrcv hrow0
            try simp only [Act.put, List.setIfInBounds_toArray, List.set_cons_zero, List.set_cons_succ]
            refine anyX_does 9 rfl (by kernel_rfl) (by rfl) (fun K hK => ?_)
            refine wp_append_src _ (.tmp 42) (.tmp 44) 22 rfl 0 31 i0 (.agg #[.int .i64 0, .int .i64 0]) 2 16 Try.underlying22 hi.out hz0.out hz1.out hz2.out rfl (by decide) v1 l.length (flat2 l) rfl (by simpa using hrow) _ 1 _ rfl hsrc (by unfold maxLen; omega) (by omega) (Nat.zero_le _) ?_
            intro v2 W2 o2 g2 f2
            have K4 : Keep (fun _ => False) wr W2 := K3.grown g2 (fun k hk => .inr (F1 k hk))
            have F2 : ∀ k, v2.ownBlock = some k → wr.heap.size ≤ k := fun k hk => by
              rcases f2 k hk with h | h
              · exact F1 k h
              · have := K3.size; omega
            obtain ⟨a2, c2, rfl⟩ := owns_form o2
            have fin := rput_fin (t := t) (e := e) HI.out K4 o2 F2
            refine hK _ _ ⟨(K4.cell (p := ⟨b, 0, none⟩) hbr (fun h => h)).trans h1, (K4.cell (p := ⟨w.heap.size, 0, none⟩) hx (fun h => h)).trans x1, (K4.cell (p := ⟨w.heap.size, 1, none⟩) hx (fun h => h)).trans x2⟩ ?_
            clear hK K hrow hsrc o1 g1 f1 o2 g2 f2
            have h1' := (K4.cell (p := ⟨b, 0, none⟩) hbr (fun h => h)).trans h1
            have hf' := (K4.frozen (p := ⟨b, 0, none⟩) hbr (fun h => h)).trans hf0
            have FIN := hid fin
            have K5 := hid K4
            have F3 := hid F2
            clear fin K4 F2 K3 K2 K1 F1 h1 x1 x2 h2
            try simp only [Act.put, List.setIfInBounds_toArray, List.set_cons_zero, List.set_cons_succ]
            refine' anyX_calm (v := _) 10 rfl (by kernel_rfl) (by rfl) (fun W hW => ?_) ?_; rotate_left
            · ((try dsimp only at hW); go_simp; first | done | rfl)
            try simp only [Act.put, List.setIfInBounds_toArray, List.set_cons_zero, List.set_cons_succ]
            refine' anyX_calm (v := _) 11 rfl (by kernel_rfl) (by rfl) (fun W hW => ?_) ?_; rotate_left
            · ((try dsimp only at hW); go_simp; first | done | rfl)
            try simp only [Act.put, List.setIfInBounds_toArray, List.set_cons_zero, List.set_cons_succ]
            refine anyX_last 12 rfl (by kernel_rfl) (by rfl) (fun K hK => ?_)
            go_simp
            refine hK _ _ ?_
            clear hK K
            go_wp2
            go_ret
            refine ⟨true, _, rfl, ?_, fun k hk => ?_, .inr ⟨rfl, by omega, fun i hi => HN.out i (by omega), FIN.out.1⟩⟩
            · exact (HK0.out.mono (fun _ _ h => h.elim)).trans FIN.out.2
            · exact .inr (by have := F3.out k hk; omega)


end Go.Proofs.Yteobmdkghdjapaa
