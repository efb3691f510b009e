/- The walks of the reference's Group. -/
import Derived.Test.YtacogkmnmeekfaaObj
import Derived.Test.YtacogkmnmeekfaaGrpE
namespace Go.Proofs.Ytacogkmnmeekfaa
open Go Go.RowKit

def rpre (I O : Int) : List Value := [.int .i64 I, .int .i64 O]

section
variable {w0 w : World} {G : Nat → Prop} {b : Nat} {I O : Int} {l : List Int}

/-- The parts of a list of the call's own. -/
theorem own_part {w : World} {g c : Nat} {n : Nat} {l : List Int} (h : OwnI w (.slice (some ⟨g, 0, none⟩) n c) l) (off m d : Nat) (s : List Int) (hs : s = (l.drop off).take m) (hm : s.length = m) : Src w (.slice (some ⟨g, off, none⟩) m d) m 1 (flat1 s) := by
  refine .inr ⟨_, _, rfl, by rw [flat1_length, hm, Nat.mul_one], fun j u hu => ?_, flat1_one s⟩
  have hj : j < s.length := by
    have := (List.getElem?_eq_some_iff.1 hu).1
    rwa [flat1_length] at this
  have hadd : (⟨g, off, none⟩ : Addr).add j = ⟨g, off + j, none⟩ := by unfold Addr.add; split <;> simp_all
  rw [hadd]
  subst hs
  have hlen : off + j < l.length := by simp at hj; omega
  rcases h.reads with ⟨_, _, _, h0⟩ | ⟨g', o', c', h1, _, _, hc⟩
  · rw [h0] at hlen; simp at hlen
  · simp only [Value.slice.injEq, Option.some.injEq, Addr.mk.injEq] at h1
    obtain ⟨⟨rfl, rfl, _⟩, _, _⟩ := h1
    have hcc := hc (off + j) hlen
    rw [Nat.zero_add] at hcc
    rw [hcc]
    rw [flat1_get _ j hj] at hu
    rw [← Option.some.inj hu]
    simp [nth, List.getD, List.getElem?_take, List.getElem?_drop]
    rw [if_pos (by simp at hj; omega)]

set_option maxHeartbeats 1000000 in
theorem rat_any (t : Int) (h : ONew 58 w0 w G b (rpre I O) l) (hn : l.length ≤ 1000) :
    Calls Try.prog 42 #[.pointer (some ⟨b, 0, none⟩), .int .i64 t] w fun e w' => e = .returned (.int .i64 (idx l t)) ∧ w = w' := by
  obtain ⟨⟨_, _, v, h, _⟩, _⟩ := h
  have h1 : w.cell? ⟨b, 2, none⟩ = some v := h.list
  have H := hid h.own.reads
  obtain ⟨a, c, hv⟩ := h.own.form
  have V := hid hv
  rw [hv] at h1
  clear h hv
  go_enter Try.func42, Try.ntmps42
  go_wp2_with fail
  go_loop [5] (fun i => ∃ k : Nat, k ≤ l.length ∧ i = .int .i64 k ∧ (∀ j, j < k → nth l j ≠ t)) (fun i => l.length - (intOf i).toNat)
  case atStart => exact ⟨0, by omega, rfl, fun j h => absurd h (Nat.not_lt_zero j)⟩
  case round =>
    obtain ⟨k, hk, rfl, hno⟩ := hrel
    have N := hid hno
    by_cases hlt : k < l.length
    · obtain ⟨g, off, hav, hcell, hmax⟩ : ∃ g off, a = some ⟨g, off, none⟩ ∧ w.cell? ⟨g, off + k, none⟩ = some (.int .i64 (nth l k)) ∧ l.length ≤ maxLen := by
        obtain ⟨_, _, _, h0⟩ | ⟨g, off, c', h1, _, hm, hc⟩ := H.out
        · rw [h0] at hlt; simp at hlt
        · rw [V.out] at h1; cases h1; exact ⟨g, off, rfl, hc k hlt, hm⟩
      subst hav
      unfold maxLen at hmax
      clear hno
      go_wp2
      · have ht : (nth l k == t) = true := by assumption
        have e : idx l t = k := idx_some hlt (by have := ht; simp at this; exact this) N.out
        have E := hid e
        go_ret
        exact ⟨by rw [E.out]; rfl, rfl⟩
      · have ht : (nth l k == t) = false := by assumption
        go_round
        case rel =>
          refine ⟨k + 1, by omega, by go_num, fun j hj => ?_⟩
          by_cases e : j = k
          · subst e; intro h; simp [h] at ht
          · exact N.out j (by omega)
        case measure => simp [intOf]; omega
    · have e : idx l t = -1 := idx_none (fun i hi => hno i (by omega))
      have E := hid e
      clear hno e
      go_wp2
      go_ret
      exact ⟨by rw [E.out]; rfl, rfl⟩

set_option maxRecDepth 10000 in
set_option maxHeartbeats 2000000 in
theorem rwait_any (t : Int) (h : ONew 58 w0 w G b (rpre I O) l) (hn : l.length ≤ 1000) {e : Int} {l' : List Int} (he : waitE (I - O) l t = e) (hl : waitL (I - O) l t = l') :
    Calls Try.prog 34 #[.pointer (some ⟨b, 0, none⟩), .int .i64 t] w fun en w' => en = .returned (.int .i64 e) ∧ StepO 58 w0 G w w' b (rpre I O) l' := by
  have HH := hid h
  obtain ⟨⟨hGb, hG, v, h, hGv⟩, _⟩ := h
  have h0 := h.get 0 (u := .int .i64 I) rfl
  have h1 := h.get 1 (u := .int .i64 O) rfl
  have h2 : w.cell? ⟨b, 2, none⟩ = some v := h.list
  have H := hid h
  obtain ⟨a0, n0, hv⟩ := h.own.form
  have HV := hid hv
  rw [hv] at h2
  clear h hv
  have same : Hid (StepO 58 w0 G w w b (rpre I O) l) := HH.out.on HH.out.1.after
  have sameD : Hid (StepO 58 w0 G w w.drew b (rpre I O) l) := HH.out.on ⟨G, HH.out.1.keep (F := fun _ => False) ((Keep.refl _ _).drew) (fun _ _ h => h), fun _ h => .inl h, (Keep.refl _ _).drew⟩
  by_cases ht : t < 1
  · rw [waitE_lo ht] at he
    rw [waitL_lo ht] at hl
    subst he hl
    go_enter Try.func34, Try.ntmps34
    go_wp2
    go_ret
    exact ⟨rfl, same.out⟩
  by_cases hm : t ∈ l
  · rw [waitE_in (by omega) hm] at he
    rw [waitL_in hm] at hl
    subst he hl
    have hi := hid (idx_in hm)
    have hi0 : (0 : Int) ≤ ((l.idxOf t : Nat) : Int) := by omega
    clear hm
    go_enter Try.func34, Try.ntmps34
    go_wp2_with fail
    refine (rat_any t HH.out hn).mono ?_
    rintro _ _ ⟨rfl, rfl⟩
    rw [hi.out]
    go_wp2
    go_ret
    exact ⟨rfl, same.out⟩
  have hi := hid (idx_out hm)
  by_cases hc : I - O = 0
  · rw [waitE_no (by omega) hm hc] at he
    rw [waitL_no hc] at hl
    subst he hl
    have hc1 : (I == O) = true := by simp; omega
    clear hm hc
    go_enter Try.func34, Try.ntmps34
    go_wp2_with fail
    refine (rat_any t HH.out hn).mono ?_
    rintro _ _ ⟨rfl, rfl⟩
    rw [hi.out]
    go_wp2
    refine wp_region_text [0,0,0,1,0,0,0,1,0] (fun _ => True) (by kernel_rfl) (by kernel_rfl) trivial ?_
    repeat (first
      | (refine' wpT_calm (v := _) (by rfl) (fun W hW => ?_) ?_; rotate_left
         · ((try dsimp only at hW); go_simp; first | done | rfl)
         simp only [Act.put, List.setIfInBounds_toArray, List.set_cons_zero, List.set_cons_succ])
      | (refine' wpT_reads (v := _) (by rfl) ?_ ?_; rotate_left
         · (go_simp; first | done | rfl)
         simp only [Act.put, List.setIfInBounds_toArray, List.set_cons_zero, List.set_cons_succ])
      | (refine wpT_skip (by rfl) rfl ?_; simp only [Act.put, List.setIfInBounds_toArray, List.set_cons_zero, List.set_cons_succ])
      | (refine wpT_does (by rfl) (fun K hK => ?_); go_simp; refine hK _ _ ?_ ?_
         · (trivial)
         clear hK K; try simp only [Act.put, List.setIfInBounds_toArray, List.set_cons_zero, List.set_cons_succ])
      | (refine wpT_last (by rfl) (fun K hK => ?_); go_simp; refine hK _ _ ?_; clear hK K)
      | (refine wpT_nil ?_))
    go_wp2
    go_ret
    exact ⟨rfl, sameD.out⟩
  rw [waitE_on (by omega) hm hc] at he
  rw [waitL_on (by omega) hm hc] at hl
  subst he hl
  have hc1 : (I == O) = false := by simp; omega
  clear hm hc
  go_enter Try.func34, Try.ntmps34
  go_wp2_with fail
  refine (rat_any t HH.out hn).mono ?_
  rintro _ _ ⟨rfl, rfl⟩
  rw [hi.out]
  go_wp2
  refine wp_region_text [0,0,0,1,0,0,0,1,0] (fun _ => True) (by kernel_rfl) (by kernel_rfl) trivial ?_
  repeat (first
    | (refine' wpT_calm (v := _) (by rfl) (fun W hW => ?_) ?_; rotate_left
       · ((try dsimp only at hW); go_simp; first | done | rfl)
       simp only [Act.put, List.setIfInBounds_toArray, List.set_cons_zero, List.set_cons_succ])
    | (refine' wpT_reads (v := _) (by rfl) ?_ ?_; rotate_left
       · (go_simp; first | done | rfl)
       simp only [Act.put, List.setIfInBounds_toArray, List.set_cons_zero, List.set_cons_succ])
    | (refine wpT_skip (by rfl) rfl ?_; simp only [Act.put, List.setIfInBounds_toArray, List.set_cons_zero, List.set_cons_succ])
    | (refine wpT_does (by rfl) (fun K hK => ?_); go_simp; refine hK _ _ ?_ ?_
       · (trivial)
       clear hK K; try simp only [Act.put, List.setIfInBounds_toArray, List.set_cons_zero, List.set_cons_succ])
    | (refine wpT_last (by rfl) (fun K hK => ?_); go_simp; refine hK _ _ ?_; clear hK K)
    | (refine wpT_nil ?_))
  have hb := H.out.lt
  have K0 : Keep (fun _ => False) w (w.alloc (.cells #[] 3)).drew := ((Keep.refl _ _).alloc _).drew
  have hrow : OwnI (w.alloc (.cells #[] 3)).drew (.slice (some ⟨w.heap.size, 0, none⟩) 0 0) [] := OwnI.keep (made_rowI w) ((Keep.refl (fun _ => False) _).drew) (fun _ _ h => h)
  have hsrc := (H.out.own.keep K0 (fun _ _ h => h)).src
  rw [HV.out] at hsrc
  go_wp2_with (at_builtin; refine wpList_plain rfl (fun K hK => wp_append_ints _ (.tmp 21) (.tmp 25) rfl _ [] rfl hrow _ l.length l rfl hsrc (by simp; omega) ?_))
  intro v1 W1 o1 f1 k1
  try rw [List.nil_append] at o1
  have K1 : Keep (fun _ => False) w W1 := K0.then k1 (fun k hk => .inr (by have := Option.some.inj hk; dsimp only at this; omega))
  have F1 : ∀ k, v1.ownBlock = some k → w.heap.size ≤ k := fun k hk => (f1 k hk).elim (fun h => by have := Option.some.inj h; dsimp only at this; omega) (fun h => by have := K0.size; omega)
  obtain ⟨a1, n1, rfl⟩ := o1.form
  refine hK _ _ ?_
  clear hK K f1 k1 hsrc hrow K0
  have K2 : Keep (fun _ => False) w (W1.alloc (.cells #[.int .i64 t] 3)) := K1.alloc _
  have hown := o1.keep ((Keep.refl (fun _ => False) W1).alloc (.cells #[.int .i64 t] 3)) (fun _ _ h => h)
  have hsrc := one_srcI W1 t
  go_wp2_with (at_builtin; refine wpList_plain rfl (fun K hK => wp_append_ints _ (.tmp 26) (.tmp 28) rfl _ l rfl hown _ 1 _ rfl hsrc (by omega) ?_))
  intro v2 W2 o2 f2 k2
  have K3 : Keep (fun _ => False) w W2 := K2.then k2 (fun k hk => .inr (F1 k hk))
  have F2 : Hid (∀ k, v2.ownBlock = some k → G k ∨ w.heap.size ≤ k) := fun k hk => (f2 k hk).elim (fun h => .inr (F1 k h)) (fun h => .inr (by have := K1.size; omega))
  obtain ⟨a2, n2, hv2⟩ := o2.form
  generalize (l ++ [t]).length = m2 at hv2
  subst hv2
  refine hK _ _ ?_
  have f2' : ∀ b', (Value.slice a2 m2 n2).ownBlock = some b' → w.heap.size ≤ b' := fun k hk => (f2 k hk).elim (fun h => F1 k h) (fun h => by have := K1.size; omega)
  clear hK K f2 k2 hsrc hown K2
  have hr := (K3.block b H.out.lt (fun h => h)).trans H.out.row
  have hne : (Value.slice a2 m2 n2).ownBlock ≠ some b := fun e => by have := f2' b e; omega
  have H1 := hid (ObjAt.setList hr o2 hne)
  have h1 : W2.cell? ⟨b, 2, none⟩ = some v := by rw [cell_of_row W2 b 2 _ _ _ hr]; rfl
  have hf : W2.frozen? ⟨b, 2, none⟩ = false := by simp [World.frozen?, hr]
  have HK := hid (K3.mono (G := G) fun k _ e => e.elim)
  clear f2' hne K3 hr o2 K1 F1 o1
  go_wp2
  go_ret
  exact ⟨rfl, HH.out.on (AfterO.mk HK.out hGb _ H1.out F2.out)⟩
end
end Go.Proofs.Ytacogkmnmeekfaa
