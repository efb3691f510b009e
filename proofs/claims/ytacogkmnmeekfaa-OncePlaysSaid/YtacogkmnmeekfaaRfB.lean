/- The walks of the reference's Group: Drop, Add. -/
import Derived.Test.YtacogkmnmeekfaaRfA
namespace Go.Proofs.Ytacogkmnmeekfaa
open Go Go.RowKit

theorem wrap_plain (n : Int) (h1 : -9223372036854775808 ≤ n) (h2 : n ≤ 9223372036854775807) : IntKind.i64.wrap n = n := IntWalk.i64_in n ⟨h1, h2⟩

section
variable {w0 w : World} {G : Nat → Prop} {b : Nat} {I O : Int} {l : List Int}

/-- What lies behind the i-th. -/
theorem src_behind {w : World} {g cap n i d : Nat} {l : List Int} (h : OwnI w (.slice (some ⟨g, 0, none⟩) (n + 1) cap) l) (hl : l.length = n + 1) (hi : i < n + 1) (sv : Value) (hsv : sv = .slice (some (if cap = i + 1 then ⟨g, 0, none⟩ else ⟨g, i + 1, none⟩)) (n - i) d) : Src w sv (n - i) 1 (flat1 (l.drop (i + 1))) := by
  subst hsv
  have hc := own_cap h
  split
  · have : n - i = 0 := by omega
    rw [this]
    refine own_part h 0 0 d _ ?_ ?_
    · rw [List.take_zero]; exact List.drop_eq_nil_of_le (by omega)
    · rw [List.length_drop]; omega
  · refine own_part h (i + 1) (n - i) d _ ?_ ?_
    · rw [List.take_of_length_le]; rw [List.length_drop]; omega
    · rw [List.length_drop]; omega

set_option maxRecDepth 10000 in
set_option maxHeartbeats 2000000 in
theorem rdrop_any (t : Int) (h : ONew 58 w0 w G b (rpre I O) l) (hn : l.length ≤ 1000) :
    Calls Try.prog 33 #[.pointer (some ⟨b, 0, none⟩), .int .i64 t] w fun en w' => en = .returned (.bool (decide (t ∈ l))) ∧ StepO 58 w0 G w w' b (rpre I O) (dropT l t) := by
  have HH := hid h
  obtain ⟨⟨hGb, hG, v, h, hGv⟩, _⟩ := h
  have h2 : w.cell? ⟨b, 2, none⟩ = some v := h.list
  have H := hid h
  clear h
  by_cases hm : t ∈ l
  · have hi : l.idxOf t < l.length := List.idxOf_lt_length_iff.2 hm
    have D := hid (dropT_in hm)
    have X := hid (idx_in hm)
    have hd : Hid (decide (t ∈ l) = true) := decide_eq_true hm
    clear hm
    generalize l.idxOf t = i at hi D X
    obtain ⟨g, cap, rfl, hcm⟩ : ∃ g cap, v = .slice (some ⟨g, 0, none⟩) l.length cap ∧ cap ≤ maxLen := by
      rcases H.out.own.2 with ⟨_, h0⟩ | ⟨g, cap, cur, h1, _, _, _, h2, _⟩
      · omega
      · exact ⟨g, cap, h1, h2⟩
    have hcm' : cap ≤ 9223372036854775807 := by unfold maxLen at hcm; omega
    have hcap := own_cap H.out.own
    obtain ⟨n, hln⟩ : ∃ n, l.length = n + 1 := ⟨l.length - 1, by omega⟩
    have LN := hid hln
    rw [hln] at h2 H hi hn hcap hGv
    have hb := H.out.lt
    have b1 : (i : Int) + 1 ≤ (n : Int) + 1 := by omega
    have b2 : i + 1 ≤ n + 1 := by omega
    have b3 : (n : Int) + 1 ≤ (cap : Int) := by omega
    have b4 : (i : Int) ≤ (cap : Int) := by omega
    have b5 : (0 : Int) ≤ (i : Int) := by omega
    have b6 : i ≤ cap := by omega
    have b7 : (i : Int) + 1 ≤ 1000 := by omega
    have hw : IntKind.i64.wrap ((i : Int) + 1) = (i : Int) + 1 := wrap_plain _ (by omega) (by omega)
    have hw1 : ((i : Int) + 1).toNat = i + 1 := by omega
    have b8 : (0 : Int) ≤ (i : Int) + 1 := by omega
    clear hln hcm
    go_enter Try.func33, Try.ntmps33
    go_wp2_with fail
    refine (rat_any t HH.out (by rw [LN.out]; exact hn)).mono ?_
    rintro _ _ ⟨rfl, rfl⟩
    rw [X.out]
    go_wp2
    refine wp_region_steps [0,2,0,0,0,0,0,0,2,0,0,0,0,0,0,0,2,0,0,3] (fun W : World => W.cell? ⟨b, 2, none⟩ = some (.slice (some ⟨g, 0, none⟩) (n + 1) cap)) (by kernel_rfl) h2 ?_
    refine' anyX_calm (v := _) 0 rfl (by kernel_rfl) (by rfl) (fun W hW => ?_) ?_; rotate_left
    · ((try dsimp only at hW); go_simp; first | done | rfl)
    try simp only [Act.put, List.setIfInBounds_toArray, List.set_cons_zero, List.set_cons_succ]
    refine' anyX_calm (v := _) 2 rfl (by kernel_rfl) (by rfl) (fun W hW => ?_) ?_; rotate_left
    · ((try dsimp only at hW); go_simp; first | done | rfl)
    try simp only [Act.put, List.setIfInBounds_toArray, List.set_cons_zero, List.set_cons_succ]
    refine' anyX_calm (v := _) 3 rfl (by kernel_rfl) (by rfl) (fun W hW => ?_) ?_; rotate_left
    · ((try dsimp only at hW); go_simp; first | done | rfl)
    try simp only [Act.put, List.setIfInBounds_toArray, List.set_cons_zero, List.set_cons_succ]
    refine' anyX_calm (v := _) 4 rfl (by kernel_rfl) (by rfl) (fun W hW => ?_) ?_; rotate_left
    · ((try dsimp only at hW); go_simp; first | done | rfl)
    try simp only [Act.put, List.setIfInBounds_toArray, List.set_cons_zero, List.set_cons_succ]
    refine' anyX_calm (v := _) 5 rfl (by kernel_rfl) (by rfl) (fun W hW => ?_) ?_; rotate_left
    · ((try dsimp only at hW); go_simp; first | done | rfl)
    try simp only [Act.put, List.setIfInBounds_toArray, List.set_cons_zero, List.set_cons_succ]
    refine' anyX_calm (v := _) 6 rfl (by kernel_rfl) (by rfl) (fun W hW => ?_) ?_; rotate_left
    · ((try dsimp only at hW); go_simp; first | done | rfl)
    try simp only [Act.put, List.setIfInBounds_toArray, List.set_cons_zero, List.set_cons_succ]
    refine' anyX_calm (v := _) 7 rfl (by kernel_rfl) (by rfl) (fun W hW => ?_) ?_; rotate_left
    · ((try dsimp only at hW); go_simp; first | done | rfl)
    try simp only [Act.put, List.setIfInBounds_toArray, List.set_cons_zero, List.set_cons_succ]
    refine' anyX_calm (v := _) 9 rfl (by kernel_rfl) (by rfl) (fun W hW => ?_) ?_; rotate_left
    · ((try dsimp only at hW); go_simp; first | done | rfl)
    try simp only [Act.put, List.setIfInBounds_toArray, List.set_cons_zero, List.set_cons_succ]
    refine' anyX_calm (v := _) 10 rfl (by kernel_rfl) (by rfl) (fun W hW => ?_) ?_; rotate_left
    · ((try dsimp only at hW); go_simp; first | done | rfl)
    try simp only [Act.put, List.setIfInBounds_toArray, List.set_cons_zero, List.set_cons_succ]
    refine' anyX_calm (v := _) 11 rfl (by kernel_rfl) (by rfl) (fun W hW => ?_) ?_; rotate_left
    · ((try dsimp only at hW); go_simp; first | done | rfl)
    try simp only [Act.put, List.setIfInBounds_toArray, List.set_cons_zero, List.set_cons_succ]
    refine' anyX_calm (v := _) 12 rfl (by kernel_rfl) (by rfl) (fun W hW => ?_) ?_; rotate_left
    · ((try dsimp only at hW); go_simp; first | done | rfl)
    try simp only [Act.put, List.setIfInBounds_toArray, List.set_cons_zero, List.set_cons_succ]
    refine' anyX_calm (v := _) 13 rfl (by kernel_rfl) (by rfl) (fun W hW => ?_) ?_; rotate_left
    · ((try dsimp only at hW); go_simp; first | done | rfl)
    try simp only [Act.put, List.setIfInBounds_toArray, List.set_cons_zero, List.set_cons_succ]
    refine' anyX_calm (v := _) 14 rfl (by kernel_rfl) (by rfl) (fun W hW => ?_) ?_; rotate_left
    · ((try dsimp only at hW); go_simp; first | done | rfl)
    try simp only [Act.put, List.setIfInBounds_toArray, List.set_cons_zero, List.set_cons_succ]
    refine' anyX_calm (v := _) 15 rfl (by kernel_rfl) (by rfl) (fun W hW => ?_) ?_; rotate_left
    · ((try dsimp only at hW); go_simp; first | done | rfl)
    try simp only [Act.put, List.setIfInBounds_toArray, List.set_cons_zero, List.set_cons_succ]
    refine anyX_does 1 rfl (by kernel_rfl) (by rfl) (fun K hK => ?_)
    go_simp
    have K0 : Keep (fun _ => False) w (w.alloc (.cells #[] 3)).drew := ((Keep.refl _ _).alloc _).drew
    have hrow : OwnI (w.alloc (.cells #[] 3)).drew (.slice (some ⟨w.heap.size, 0, none⟩) 0 0) [] := OwnI.keep (made_rowI w) ((Keep.refl (fun _ => False) _).drew) (fun _ _ h => h)
    refine hK _ _ ((K0.cell (p := ⟨b, 2, none⟩) hb (fun h => h)).trans h2) ?_
    clear hK K
    try simp only [Act.put, List.setIfInBounds_toArray, List.set_cons_zero, List.set_cons_succ]
    refine anyX_does 8 rfl (by kernel_rfl) (by rfl) (fun K hK => ?_)
    have hs1 : Src (w.alloc (.cells #[] 3)).drew (.slice (some ⟨g, 0, none⟩) i cap) i 1 (flat1 (l.take i)) :=
      (own_part H.out.own 0 i cap (l.take i) (by simp) (by rw [List.length_take, LN.out]; omega)).keep K0 (fun _ _ h => h)
    refine wp_append_ints _ (.tmp 12) (.tmp 18) rfl _ [] rfl hrow _ i (l.take i) rfl hs1 (by simp; omega) ?_
    intro v1 W1 o1 f1 k1
    try rw [List.nil_append] at o1
    have K1 : Keep (fun _ => False) w W1 := K0.then k1 (fun k hk => .inr (by have := Option.some.inj hk; dsimp only at this; omega))
    have F1 : ∀ k, v1.ownBlock = some k → w.heap.size ≤ k := fun k hk => (f1 k hk).elim (fun h => by have := Option.some.inj h; dsimp only at this; omega) (fun h => by have := K0.size; omega)
    have hs2 : Src W1 (.slice (some (if cap = i + 1 then ⟨g, 0, none⟩ else ⟨g, i + 1, none⟩)) (n - i) (cap - (i + 1))) (n - i) 1 (flat1 (l.drop (i + 1))) := (src_behind H.out.own LN.out hi _ rfl).keep K1 (fun _ _ h => h)
    obtain ⟨a1, n1, hv1⟩ := o1.form
    have hl1 : (l.take i).length = i := by rw [List.length_take, LN.out]; omega
    rw [hl1] at hv1
    subst hv1
    refine hK _ _ ((K1.cell (p := ⟨b, 2, none⟩) hb (fun h => h)).trans h2) ?_
    clear hK K f1 k1 hs1 hrow K0
    try simp only [Act.put, List.setIfInBounds_toArray, List.set_cons_zero, List.set_cons_succ]
    refine anyX_does 16 rfl (by kernel_rfl) (by rfl) (fun K hK => ?_)
    refine wp_append_ints _ (.tmp 19) (.tmp 26) rfl _ (l.take i) rfl o1 _ (n - i) (l.drop (i + 1)) ?_ hs2 (by rw [hl1]; omega) ?_
    · show Value.slice (if cap = i + 1 then some { block := g, off := 0 } else some { block := g, off := i + 1 }) (n - i) (cap - (i + 1)) = _
      split <;> rfl
    intro v2 W2 o2 f2 k2
    rw [← List.eraseIdx_eq_take_drop_succ] at o2
    have K3 : Keep (fun _ => False) w W2 := K1.then k2 (fun k hk => .inr (F1 k hk))
    have F2 : ∀ k, v2.ownBlock = some k → w.heap.size ≤ k := fun k hk => (f2 k hk).elim (fun h => F1 k h) (fun h => by have := K1.size; omega)
    obtain ⟨a2, n2, hv2⟩ := o2.form
    generalize (l.eraseIdx i).length = m2 at hv2
    subst hv2
    have hr := (K3.block b hb (fun h => h)).trans H.out.row
    have hne : (Value.slice a2 m2 n2).ownBlock ≠ some b := fun e => by have := F2 b e; omega
    have H1 := hid (ObjAt.setList hr o2 hne)
    have h2' := (K3.cell (p := ⟨b, 2, none⟩) hb (fun h => h)).trans h2
    have hf : W2.frozen? ⟨b, 2, none⟩ = false := by simp [World.frozen?, hr]
    have HK := hid (K3.mono (G := G) fun k _ e => e.elim)
    have HF : Hid (∀ k, (Value.slice a2 m2 n2).ownBlock = some k → G k ∨ w.heap.size ≤ k) := fun k hk => .inr (F2 k hk)
    refine hK _ _ h2' ?_
    clear hK K hne K3 hr o2 K1 F1 o1 F2 f2 k2 hs2
    try simp only [Act.put, List.setIfInBounds_toArray, List.set_cons_zero, List.set_cons_succ]
    refine' anyX_calm (v := _) 17 rfl (by kernel_rfl) (by rfl) (fun W hW => ?_) ?_; rotate_left
    · ((try dsimp only at hW); go_simp; first | done | rfl)
    try simp only [Act.put, List.setIfInBounds_toArray, List.set_cons_zero, List.set_cons_succ]
    refine' anyX_calm (v := _) 18 rfl (by kernel_rfl) (by rfl) (fun W hW => ?_) ?_; rotate_left
    · ((try dsimp only at hW); go_simp; first | done | rfl)
    try simp only [Act.put, List.setIfInBounds_toArray, List.set_cons_zero, List.set_cons_succ]
    refine anyX_last 19 rfl (by kernel_rfl) (by rfl) (fun K hK => ?_)
    go_simp
    all_goals
      refine hK _ _ ?_
      clear hK K
      go_wp2
      all_goals
        go_ret
        rw [hd.out, D.out]
        exact ⟨rfl, HH.out.on (AfterO.mk HK.out hGb _ H1.out HF.out)⟩
  · have hd : Hid (decide (t ∈ l) = false) := decide_eq_false hm
    have X := hid (idx_out hm)
    have D := hid (dropT_no hm)
    have same : Hid (StepO 58 w0 G w w b (rpre I O) l) := HH.out.on HH.out.1.after
    clear hm
    go_enter Try.func33, Try.ntmps33
    go_wp2_with fail
    refine (rat_any t HH.out hn).mono ?_
    rintro _ _ ⟨rfl, rfl⟩
    rw [X.out]
    go_wp2
    go_ret
    rw [hd.out, D.out]
    exact ⟨rfl, same.out⟩

set_option maxRecDepth 10000 in
set_option maxHeartbeats 2000000 in
theorem radd_any (n : Int) (h : ONew 58 w0 w G b (rpre I O) l) (hO : 0 ≤ O) (hOI : O ≤ I) (hc1 : I - O ≤ 1048576) (hI : I ≤ 1000000000000) :
    Calls Try.prog 35 #[.pointer (some ⟨b, 0, none⟩), .int .i64 n] w fun en w' => ∃ a m I' O', en = .returned (.tuple #[.slice a (addO (I - O) l n).length m, .int .i64 (addE (I - O) n)]) ∧ I' - O' = addC (I - O) n ∧ 0 ≤ O' ∧ I' ≤ I + 1048576 ∧ OutO 58 w0 G w w' b (rpre I' O') (addL (I - O) l n) a m (addO (I - O) l n) := by
  have HH := hid h
  obtain ⟨⟨hGb, hG, v, h, hGv⟩, hlow, hkeep⟩ := h
  have h0 := h.get 0 (u := .int .i64 I) rfl
  have h1 := h.get 1 (u := .int .i64 O) rfl
  have h2 : w.cell? ⟨b, 2, none⟩ = some v := h.list
  have f0 := h.fro 0
  have f1 := h.fro 1
  have f2 := h.fro 2
  have H := hid h
  obtain ⟨a0, n0, hv⟩ := h.own.form
  have HV := hid hv
  rw [hv] at h2
  have HL := hid hlow
  have HK := hid hkeep
  clear h hv hlow hkeep
  have hw : IntKind.i64.wrap (I - O) = I - O := wrap_plain _ (by omega) (by omega)
  obtain ⟨c, hcd⟩ : ∃ c, I - O = c := ⟨_, rfl⟩
  rw [hcd] at hc1 ⊢
  rw [hcd] at hw
  have hc0 : 0 ≤ c := by omega
  have HD := hid hcd
  have none0 : ReadI w.drew (.slice none 0 0) [] := .inl ⟨_, _, rfl, rfl⟩
  have HN : Hid (ONew 58 w0 w.drew G b (rpre I O) l) := hid (HH.out.keep (F := fun _ => False) ((Keep.refl _ _).drew) (fun _ h => h.elim))
  by_cases ha : n < -c
  · have E : Hid (addE c n = 11) := by unfold addE; rw [if_pos ha]; exact rfl
    have C : Hid (addC c n = c) := by unfold addC; rw [if_pos ha]; exact rfl
    have Q : Hid (addO c l n = []) := by unfold addO; rw [if_neg (by omega)]; exact rfl
    have L : Hid (addL c l n = l) := by unfold addL; rw [if_neg (by omega)]; exact rfl
    have hn0 : n < 0 := by omega
    go_enter Try.func35, Try.ntmps35
    go_wp2
    refine wp_region_text [0,0,0,1,0,0,0,1,0,0] (fun _ => True) (by kernel_rfl) (by kernel_rfl) trivial ?_
    repeat (first
      | (refine' wpT_calm (v := _) (by rfl) (fun W hW => ?_) ?_; rotate_left
         · ((try dsimp only at hW); go_simp; first | done | rfl)
         simp only [Act.put, List.setIfInBounds_toArray, List.set_cons_zero, List.set_cons_succ])
      | (refine' wpT_reads (v := _) (by rfl) ?_ ?_; rotate_left
         · (go_simp; first | done | rfl)
         simp only [Act.put, List.setIfInBounds_toArray, List.set_cons_zero, List.set_cons_succ])
      | (refine wpT_skip (by rfl) rfl ?_; simp only [Act.put, List.setIfInBounds_toArray, List.set_cons_zero, List.set_cons_succ])
      | (refine wpT_does (by rfl) (fun K hK => ?_); go_simp; refine hK _ _ ?_ ?_
         · (trivial)
         clear hK K; try simp only [Act.put, List.setIfInBounds_toArray, List.set_cons_zero, List.set_cons_succ])
      | (refine wpT_last (by rfl) (fun K hK => ?_); go_simp; refine hK _ _ ?_; clear hK K)
      | (refine wpT_nil ?_))
    go_wp2
    all_goals
      go_ret2
      rw [E.out, C.out, Q.out, L.out]
      first
        | exact ⟨none, 0, I, O, rfl, HD.out, hO, by omega, .inl ⟨_, _, rfl, rfl⟩, (Keep.refl _ _).drew, G, HN.out, fun _ h => .inl h, fun k hk => by simp [Value.ownBlock] at hk⟩
        | exact ⟨none, 0, rfl, I, O, HD.out, hO, by omega, .inl ⟨_, _, rfl, rfl⟩, (Keep.refl _ _).drew, G, HN.out, fun _ h => .inl h, fun k hk => by simp [Value.ownBlock] at hk⟩
  by_cases hb : n > 1048576 - c
  · have E : Hid (addE c n = 13) := by unfold addE; rw [if_neg ha, if_pos hb]; exact rfl
    have C : Hid (addC c n = c) := by unfold addC; rw [if_neg ha, if_pos hb]; exact rfl
    have Q : Hid (addO c l n = []) := by unfold addO; rw [if_neg (by omega)]; exact rfl
    have L : Hid (addL c l n = l) := by unfold addL; rw [if_neg (by omega)]; exact rfl
    have hb1 : n ≤ 1048576 → c + n > 1048576 := by omega
    go_enter Try.func35, Try.ntmps35
    go_wp2
    refine wp_region_text [0,0,0,1,0,0,0,1,0,0] (fun _ => True) (by kernel_rfl) (by kernel_rfl) trivial ?_
    repeat (first
      | (refine' wpT_calm (v := _) (by rfl) (fun W hW => ?_) ?_; rotate_left
         · ((try dsimp only at hW); go_simp; first | done | rfl)
         simp only [Act.put, List.setIfInBounds_toArray, List.set_cons_zero, List.set_cons_succ])
      | (refine' wpT_reads (v := _) (by rfl) ?_ ?_; rotate_left
         · (go_simp; first | done | rfl)
         simp only [Act.put, List.setIfInBounds_toArray, List.set_cons_zero, List.set_cons_succ])
      | (refine wpT_skip (by rfl) rfl ?_; simp only [Act.put, List.setIfInBounds_toArray, List.set_cons_zero, List.set_cons_succ])
      | (refine wpT_does (by rfl) (fun K hK => ?_); go_simp; refine hK _ _ ?_ ?_
         · (trivial)
         clear hK K; try simp only [Act.put, List.setIfInBounds_toArray, List.set_cons_zero, List.set_cons_succ])
      | (refine wpT_last (by rfl) (fun K hK => ?_); go_simp; refine hK _ _ ?_; clear hK K)
      | (refine wpT_nil ?_))
    go_wp2
    all_goals
      go_ret2
      rw [E.out, C.out, Q.out, L.out]
      first
        | exact ⟨none, 0, I, O, rfl, HD.out, hO, by omega, .inl ⟨_, _, rfl, rfl⟩, (Keep.refl _ _).drew, G, HN.out, fun _ h => .inl h, fun k hk => by simp [Value.ownBlock] at hk⟩
        | exact ⟨none, 0, rfl, I, O, HD.out, hO, by omega, .inl ⟨_, _, rfl, rfl⟩, (Keep.refl _ _).drew, G, HN.out, fun _ h => .inl h, fun k hk => by simp [Value.ownBlock] at hk⟩
  have E : Hid (addE c n = 0) := by unfold addE; rw [if_neg ha, if_neg hb]; exact rfl
  have C : Hid (addC c n = c + n) := by unfold addC; rw [if_neg ha, if_neg hb]; exact rfl
  have n1 : n ≤ 1048576 := by omega
  have n2 : c + n ≤ 1048576 := by omega
  have n3 : -1048576 ≤ n := by omega
  have n4 : -n ≤ c := by omega
  -- behind the change
  have key : ∀ (I' O' : Int) (W : World), Keep (fun k => k = b) w W → ObjAt 58 W b (rpre I' O') v l → I' - O' = c + n → 0 ≤ O' → I' ≤ I + 1048576 → Hid (c + n > 0 → ∃ a m I2 O2, Ending.returned (.tuple #[.slice none 0 0, .int .i64 0]) = .returned (.tuple #[.slice a (addO c l n).length m, .int .i64 (addE c n)]) ∧ I2 - O2 = addC c n ∧ 0 ≤ O2 ∧ I2 ≤ I + 1048576 ∧ OutO 58 w0 G w W.drew b (rpre I2 O2) (addL c l n) a m (addO c l n)) ∧
      Hid (¬ c + n > 0 → ∃ a m I2 O2, Ending.returned (.tuple #[.slice a0 l.length n0, .int .i64 0]) = .returned (.tuple #[.slice a (addO c l n).length m, .int .i64 (addE c n)]) ∧ I2 - O2 = addC c n ∧ 0 ≤ O2 ∧ I2 ≤ I + 1048576 ∧ OutO 58 w0 G w (W.drew.setCell ⟨b, 2, none⟩ (.slice none 0 0)) b (rpre I2 O2) (addL c l n) a m (addO c l n)) := by
    intro I' O' W hK hA hIO hO0 hI1
    refine ⟨fun hz => ?_, fun hz => ?_⟩
    · have Q : addO c l n = [] := by unfold addO; rw [if_neg (by omega)]
      have L : addL c l n = l := by unfold addL; rw [if_neg (by omega)]
      rw [E.out, C.out, Q, L]
      have hA' : ObjAt 58 W.drew b (rpre I' O') v l := hA.keep (F := fun _ => False) ((Keep.refl _ _).drew) (fun h => h) (fun _ _ h => h)
      refine ⟨none, 0, I', O', rfl, hIO, hO0, hI1, .inl ⟨_, _, rfl, rfl⟩, (hK.mono fun k _ e => e ▸ hGb).drew, _, ⟨IsObj.of hA', fun k hk => hk.elim (fun e => e ▸ HL.out b hGb) (fun e => HL.out k (hGv k e)), HK.out.then hK.drew fun k hk => .inr (hk ▸ HL.out b hGb)⟩, fun k hk => .inl (hk.elim (fun e => e ▸ hGb) (fun e => hGv k e)), fun k hk => by simp [Value.ownBlock] at hk⟩
    · have Q : addO c l n = l := by unfold addO; rw [if_pos (by omega)]
      have L : addL c l n = [] := by unfold addL; rw [if_pos (by omega)]
      rw [E.out, C.out, Q, L]
      have hA' : ObjAt 58 W.drew b (rpre I' O') v l := hA.keep (F := fun _ => False) ((Keep.refl _ _).drew) (fun h => h) (fun _ _ h => h)
      have hA2 : ObjAt 58 (W.drew.setCell ⟨b, 2, none⟩ (.slice none 0 0)) b (rpre I' O') (.slice none 0 0) [] := ObjAt.setList hA'.row (OwnI.nil _) (by simp [Value.ownBlock])
      have hK2 : Keep (fun k => k = b) w (W.drew.setCell ⟨b, 2, none⟩ (.slice none 0 0)) := hK.drew.setOwn _
      have R : ReadI (W.drew.setCell ⟨b, 2, none⟩ (.slice none 0 0)) v l := (hA'.own.keep (F := fun k => k = b) ((Keep.refl _ _).setOwn _) (fun k hk e => hA'.ne (e ▸ hk))).reads
      refine ⟨a0, n0, I', O', rfl, hIO, hO0, hI1, by rw [← HV.out]; exact R, hK2.mono fun k _ e => e ▸ hGb, fun k => k = b, ⟨⟨rfl, fun k hk => hk ▸ hA2.lt, _, hA2, fun k hk => by simp [Value.ownBlock] at hk⟩, fun k hk => hk ▸ HL.out b hGb, HK.out.then hK2 fun k hk => .inr (hk ▸ HL.out b hGb)⟩, fun k hk => .inl (hk ▸ hGb), fun k hk => ?_⟩
      rw [← HV.out] at hk
      exact ⟨.inl (hGv k hk), Nat.lt_of_lt_of_le (hG k (hGv k hk)) hK2.size, fun e => hA.ne (e ▸ hk)⟩
  by_cases hp : n > 0
  · have key1 := key (I + n) O (w.drew.setCell ⟨b, 0, none⟩ (.int .i64 (I + n))) ((Keep.refl _ _).drew.setOwn _) ((H.out.keep (F := fun _ => False) ((Keep.refl _ _).drew) (fun h => h) (fun _ _ h => h)).setPre 0 (by simp [rpre]) (.int .i64 (I + n))) (by omega) hO (by omega)
    have k1 := key1.1
    clear key key1
    have hz : c + n > 0 := by omega
    have hgt : I + n > O := by omega
    have hbd : I + n ≤ 1000001048576 := by omega
    go_enter Try.func35, Try.ntmps35
    go_wp2
    refine wp_region_text [0,0,0,1,0,0,0,1,0,0] (fun _ => True) (by kernel_rfl) (by kernel_rfl) trivial ?_
    repeat (first
      | (refine' wpT_calm (v := _) (by rfl) (fun W hW => ?_) ?_; rotate_left
         · ((try dsimp only at hW); go_simp; first | done | rfl)
         simp only [Act.put, List.setIfInBounds_toArray, List.set_cons_zero, List.set_cons_succ])
      | (refine' wpT_reads (v := _) (by rfl) ?_ ?_; rotate_left
         · (go_simp; first | done | rfl)
         simp only [Act.put, List.setIfInBounds_toArray, List.set_cons_zero, List.set_cons_succ])
      | (refine wpT_skip (by rfl) rfl ?_; simp only [Act.put, List.setIfInBounds_toArray, List.set_cons_zero, List.set_cons_succ])
      | (refine wpT_does (by rfl) (fun K hK => ?_); go_simp; refine hK _ _ ?_ ?_
         · (trivial)
         clear hK K; try simp only [Act.put, List.setIfInBounds_toArray, List.set_cons_zero, List.set_cons_succ])
      | (refine wpT_last (by rfl) (fun K hK => ?_); go_simp; refine hK _ _ ?_; clear hK K)
      | (refine wpT_nil ?_))
    go_wp2
    refine wp_region_text [0,0,0,1,0,0,0,1,0] (fun _ => True) (by kernel_rfl) (by kernel_rfl) trivial ?_
    repeat (first
      | (refine' wpT_calm (v := _) (by rfl) (fun W hW => ?_) ?_; rotate_left
         · ((try dsimp only at hW); go_simp; first | done | rfl)
         simp only [Act.put, List.setIfInBounds_toArray, List.set_cons_zero, List.set_cons_succ])
      | (refine' wpT_reads (v := _) (by rfl) ?_ ?_; rotate_left
         · (go_simp; first | done | rfl)
         simp only [Act.put, List.setIfInBounds_toArray, List.set_cons_zero, List.set_cons_succ])
      | (refine wpT_skip (by rfl) rfl ?_; simp only [Act.put, List.setIfInBounds_toArray, List.set_cons_zero, List.set_cons_succ])
      | (refine wpT_does (by rfl) (fun K hK => ?_); go_simp; refine hK _ _ ?_ ?_
         · (trivial)
         clear hK K; try simp only [Act.put, List.setIfInBounds_toArray, List.set_cons_zero, List.set_cons_succ])
      | (refine wpT_last (by rfl) (fun K hK => ?_); go_simp; refine hK _ _ ?_; clear hK K)
      | (refine wpT_nil ?_))
    go_wp2
    go_ret2
    exact k1.out hz
  · have key1 := key I (O - n) (w.drew.setCell ⟨b, 1, none⟩ (.int .i64 (O - n))) ((Keep.refl _ _).drew.setOwn _) ((H.out.keep (F := fun _ => False) ((Keep.refl _ _).drew) (fun h => h) (fun _ _ h => h)).setPre 1 (by simp [rpre]) (.int .i64 (O - n))) (by omega) (by omega) (by omega)
    have k1 := key1.1
    have k2 := key1.2
    clear key key1
    by_cases hz : c + n > 0
    · have hgt : I > O - n := by omega
      go_enter Try.func35, Try.ntmps35
      go_wp2
      refine wp_region_text [0,0,0,1,0,0,0,1,0,0] (fun _ => True) (by kernel_rfl) (by kernel_rfl) trivial ?_
      repeat (first
        | (refine' wpT_calm (v := _) (by rfl) (fun W hW => ?_) ?_; rotate_left
           · ((try dsimp only at hW); go_simp; first | done | rfl)
           simp only [Act.put, List.setIfInBounds_toArray, List.set_cons_zero, List.set_cons_succ])
        | (refine' wpT_reads (v := _) (by rfl) ?_ ?_; rotate_left
           · (go_simp; first | done | rfl)
           simp only [Act.put, List.setIfInBounds_toArray, List.set_cons_zero, List.set_cons_succ])
        | (refine wpT_skip (by rfl) rfl ?_; simp only [Act.put, List.setIfInBounds_toArray, List.set_cons_zero, List.set_cons_succ])
        | (refine wpT_does (by rfl) (fun K hK => ?_); go_simp; refine hK _ _ ?_ ?_
           · (trivial)
           clear hK K; try simp only [Act.put, List.setIfInBounds_toArray, List.set_cons_zero, List.set_cons_succ])
        | (refine wpT_last (by rfl) (fun K hK => ?_); go_simp; refine hK _ _ ?_; clear hK K)
        | (refine wpT_nil ?_))
      go_wp2
      all_goals
        refine wp_region_text [0,0,0,1,0,0,0,1,0] (fun _ => True) (by kernel_rfl) (by kernel_rfl) trivial ?_
        repeat (first
          | (refine' wpT_calm (v := _) (by rfl) (fun W hW => ?_) ?_; rotate_left
             · ((try dsimp only at hW); go_simp; first | done | rfl)
             simp only [Act.put, List.setIfInBounds_toArray, List.set_cons_zero, List.set_cons_succ])
          | (refine' wpT_reads (v := _) (by rfl) ?_ ?_; rotate_left
             · (go_simp; first | done | rfl)
             simp only [Act.put, List.setIfInBounds_toArray, List.set_cons_zero, List.set_cons_succ])
          | (refine wpT_skip (by rfl) rfl ?_; simp only [Act.put, List.setIfInBounds_toArray, List.set_cons_zero, List.set_cons_succ])
          | (refine wpT_does (by rfl) (fun K hK => ?_); go_simp; refine hK _ _ ?_ ?_
             · (trivial)
             clear hK K; try simp only [Act.put, List.setIfInBounds_toArray, List.set_cons_zero, List.set_cons_succ])
          | (refine wpT_last (by rfl) (fun K hK => ?_); go_simp; refine hK _ _ ?_; clear hK K)
          | (refine wpT_nil ?_))
        go_wp2
        go_ret2
        exact k1.out hz
    · have hgt : ¬ I > O - n := by omega
      go_enter Try.func35, Try.ntmps35
      go_wp2
      refine wp_region_text [0,0,0,1,0,0,0,1,0,0] (fun _ => True) (by kernel_rfl) (by kernel_rfl) trivial ?_
      repeat (first
        | (refine' wpT_calm (v := _) (by rfl) (fun W hW => ?_) ?_; rotate_left
           · ((try dsimp only at hW); go_simp; first | done | rfl)
           simp only [Act.put, List.setIfInBounds_toArray, List.set_cons_zero, List.set_cons_succ])
        | (refine' wpT_reads (v := _) (by rfl) ?_ ?_; rotate_left
           · (go_simp; first | done | rfl)
           simp only [Act.put, List.setIfInBounds_toArray, List.set_cons_zero, List.set_cons_succ])
        | (refine wpT_skip (by rfl) rfl ?_; simp only [Act.put, List.setIfInBounds_toArray, List.set_cons_zero, List.set_cons_succ])
        | (refine wpT_does (by rfl) (fun K hK => ?_); go_simp; refine hK _ _ ?_ ?_
           · (trivial)
           clear hK K; try simp only [Act.put, List.setIfInBounds_toArray, List.set_cons_zero, List.set_cons_succ])
        | (refine wpT_last (by rfl) (fun K hK => ?_); go_simp; refine hK _ _ ?_; clear hK K)
        | (refine wpT_nil ?_))
      go_wp2
      all_goals
        refine wp_region_text [0,0,0,1,0,0,0,1,0] (fun _ => True) (by kernel_rfl) (by kernel_rfl) trivial ?_
        repeat (first
          | (refine' wpT_calm (v := _) (by rfl) (fun W hW => ?_) ?_; rotate_left
             · ((try dsimp only at hW); go_simp; first | done | rfl)
             simp only [Act.put, List.setIfInBounds_toArray, List.set_cons_zero, List.set_cons_succ])
          | (refine' wpT_reads (v := _) (by rfl) ?_ ?_; rotate_left
             · (go_simp; first | done | rfl)
             simp only [Act.put, List.setIfInBounds_toArray, List.set_cons_zero, List.set_cons_succ])
          | (refine wpT_skip (by rfl) rfl ?_; simp only [Act.put, List.setIfInBounds_toArray, List.set_cons_zero, List.set_cons_succ])
          | (refine wpT_does (by rfl) (fun K hK => ?_); go_simp; refine hK _ _ ?_ ?_
             · (trivial)
             clear hK K; try simp only [Act.put, List.setIfInBounds_toArray, List.set_cons_zero, List.set_cons_succ])
          | (refine wpT_last (by rfl) (fun K hK => ?_); go_simp; refine hK _ _ ?_; clear hK K)
          | (refine wpT_nil ?_))
        go_wp2
        go_ret2
        exact k2.out hz
end
end Go.Proofs.Ytacogkmnmeekfaa
