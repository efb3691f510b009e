/- The reference's Once: Drop, Done, Doer, Waits. -/
import Derived.Test.YtacogkmnmeekfaaRfD
namespace Go.Proofs.Ytacogkmnmeekfaa
open Go Go.RowKit

section
variable {w0 w : World} {G : Nat → Prop} {b : Nat} {o : Bool} {l : List Int}

set_option maxRecDepth 10000 in
set_option maxHeartbeats 2000000 in
theorem qdrop_in (t : Int) (i : Nat) (hi : i < l.length) (hi1 : 1 ≤ i) (X : Hid (idx l t = i)) (h : LNew 51 w0 w G b [.bool o] l) (hn : l.length ≤ 1000) :
    Calls Try.prog 27 #[.pointer (some ⟨b, 0, none⟩), .int .i64 t] w fun en w' => en = .returned (.bool true) ∧ StepL 51 w0 G w w' b [.bool o] (l.eraseIdx i) := by
  have HH := hid h
  obtain ⟨⟨hGb, hG, v, h, hGv⟩, _⟩ := h
  have h2 : w.cell? ⟨b, 0, none⟩ = some v := h.list
  have H := hid h
  clear h
  obtain ⟨g, cap, rfl, hcm⟩ : ∃ g cap, v = .slice (some ⟨g, 0, none⟩) l.length cap ∧ cap ≤ maxLen := by
    rcases H.out.own.2 with ⟨_, h0⟩ | ⟨g, cap, cur, h1, _, _, _, h2, _⟩
    · omega
    · exact ⟨g, cap, h1, h2⟩
  have hcm' : cap ≤ 9223372036854775807 := by unfold maxLen at hcm; omega
  have hcap := own_cap H.out.own
  obtain ⟨n, hln⟩ : ∃ n, l.length = n + 1 := ⟨l.length - 1, by omega⟩
  have LN := hid hln
  rw [hln] at h2 H hi hn hcap hGv
  have hb := H.out.lt
  have b0 : ¬ ((i : Int) < 1) := by omega
  have b1 : (i : Int) + 1 ≤ (n : Int) + 1 := by omega
  have b2 : i + 1 ≤ n + 1 := by omega
  have b3 : (n : Int) + 1 ≤ (cap : Int) := by omega
  have b4 : (i : Int) ≤ (cap : Int) := by omega
  have b5 : (0 : Int) ≤ (i : Int) := by omega
  have b6 : i ≤ cap := by omega
  have b7 : (i : Int) + 1 ≤ 1000 := by omega
  have hw : IntKind.i64.wrap ((i : Int) + 1) = (i : Int) + 1 := wrap_plain _ (by omega) (by omega)
  have hw1 : ((i : Int) + 1).toNat = i + 1 := by omega
  have b8 : (0 : Int) ≤ (i : Int) + 1 := by omega
  clear hln hcm
  go_enter Try.func27, Try.ntmps27
  go_wp2_with fail
  refine (qat_any t HH.out (by rw [LN.out]; exact hn)).mono ?_
  rintro _ _ ⟨rfl, rfl⟩
  rw [X.out]
  go_wp2
  refine wp_region_steps [0,2,0,0,0,0,0,0,2,0,0,0,0,0,0,0,2,0,0,3] (fun W : World => W.cell? ⟨b, 0, none⟩ = some (.slice (some ⟨g, 0, none⟩) (n + 1) cap)) (by kernel_rfl) h2 ?_
  refine' anyX_calm (v := _) 0 rfl (by kernel_rfl) (by rfl) (fun W hW => ?_) ?_; rotate_left
  · ((try dsimp only at hW); go_simp; first | done | rfl)
  try simp only [Act.put, List.setIfInBounds_toArray, List.set_cons_zero, List.set_cons_succ]
  refine' anyX_calm (v := _) 2 rfl (by kernel_rfl) (by rfl) (fun W hW => ?_) ?_; rotate_left
  · ((try dsimp only at hW); go_simp; first | done | rfl)
  try simp only [Act.put, List.setIfInBounds_toArray, List.set_cons_zero, List.set_cons_succ]
  refine' anyX_calm (v := _) 3 rfl (by kernel_rfl) (by rfl) (fun W hW => ?_) ?_; rotate_left
  · ((try dsimp only at hW); go_simp; first | done | rfl)
  try simp only [Act.put, List.setIfInBounds_toArray, List.set_cons_zero, List.set_cons_succ]
  refine' anyX_calm (v := _) 4 rfl (by kernel_rfl) (by rfl) (fun W hW => ?_) ?_; rotate_left
  · ((try dsimp only at hW); go_simp; first | done | rfl)
  try simp only [Act.put, List.setIfInBounds_toArray, List.set_cons_zero, List.set_cons_succ]
  refine' anyX_calm (v := _) 5 rfl (by kernel_rfl) (by rfl) (fun W hW => ?_) ?_; rotate_left
  · ((try dsimp only at hW); go_simp; first | done | rfl)
  try simp only [Act.put, List.setIfInBounds_toArray, List.set_cons_zero, List.set_cons_succ]
  refine' anyX_calm (v := _) 6 rfl (by kernel_rfl) (by rfl) (fun W hW => ?_) ?_; rotate_left
  · ((try dsimp only at hW); go_simp; first | done | rfl)
  try simp only [Act.put, List.setIfInBounds_toArray, List.set_cons_zero, List.set_cons_succ]
  refine' anyX_calm (v := _) 7 rfl (by kernel_rfl) (by rfl) (fun W hW => ?_) ?_; rotate_left
  · ((try dsimp only at hW); go_simp; first | done | rfl)
  try simp only [Act.put, List.setIfInBounds_toArray, List.set_cons_zero, List.set_cons_succ]
  refine' anyX_calm (v := _) 9 rfl (by kernel_rfl) (by rfl) (fun W hW => ?_) ?_; rotate_left
  · ((try dsimp only at hW); go_simp; first | done | rfl)
  try simp only [Act.put, List.setIfInBounds_toArray, List.set_cons_zero, List.set_cons_succ]
  refine' anyX_calm (v := _) 10 rfl (by kernel_rfl) (by rfl) (fun W hW => ?_) ?_; rotate_left
  · ((try dsimp only at hW); go_simp; first | done | rfl)
  try simp only [Act.put, List.setIfInBounds_toArray, List.set_cons_zero, List.set_cons_succ]
  refine' anyX_calm (v := _) 11 rfl (by kernel_rfl) (by rfl) (fun W hW => ?_) ?_; rotate_left
  · ((try dsimp only at hW); go_simp; first | done | rfl)
  try simp only [Act.put, List.setIfInBounds_toArray, List.set_cons_zero, List.set_cons_succ]
  refine' anyX_calm (v := _) 12 rfl (by kernel_rfl) (by rfl) (fun W hW => ?_) ?_; rotate_left
  · ((try dsimp only at hW); go_simp; first | done | rfl)
  try simp only [Act.put, List.setIfInBounds_toArray, List.set_cons_zero, List.set_cons_succ]
  refine' anyX_calm (v := _) 13 rfl (by kernel_rfl) (by rfl) (fun W hW => ?_) ?_; rotate_left
  · ((try dsimp only at hW); go_simp; first | done | rfl)
  try simp only [Act.put, List.setIfInBounds_toArray, List.set_cons_zero, List.set_cons_succ]
  refine' anyX_calm (v := _) 14 rfl (by kernel_rfl) (by rfl) (fun W hW => ?_) ?_; rotate_left
  · ((try dsimp only at hW); go_simp; first | done | rfl)
  try simp only [Act.put, List.setIfInBounds_toArray, List.set_cons_zero, List.set_cons_succ]
  refine' anyX_calm (v := _) 15 rfl (by kernel_rfl) (by rfl) (fun W hW => ?_) ?_; rotate_left
  · ((try dsimp only at hW); go_simp; first | done | rfl)
  try simp only [Act.put, List.setIfInBounds_toArray, List.set_cons_zero, List.set_cons_succ]
  refine anyX_does 1 rfl (by kernel_rfl) (by rfl) (fun K hK => ?_)
  go_simp
  have K0 : Keep (fun _ => False) w (w.alloc (.cells #[] 3)).drew := ((Keep.refl _ _).alloc _).drew
  have hrow : OwnI (w.alloc (.cells #[] 3)).drew (.slice (some ⟨w.heap.size, 0, none⟩) 0 0) [] := OwnI.keep (made_rowI w) ((Keep.refl (fun _ => False) _).drew) (fun _ _ h => h)
  refine hK _ _ ((K0.cell (p := ⟨b, 0, none⟩) hb (fun h => h)).trans h2) ?_
  clear hK K
  try simp only [Act.put, List.setIfInBounds_toArray, List.set_cons_zero, List.set_cons_succ]
  refine anyX_does 8 rfl (by kernel_rfl) (by rfl) (fun K hK => ?_)
  have hs1 : Src (w.alloc (.cells #[] 3)).drew (.slice (some ⟨g, 0, none⟩) i cap) i 1 (flat1 (l.take i)) :=
    (own_part H.out.own 0 i cap (l.take i) (by simp) (by rw [List.length_take, LN.out]; omega)).keep K0 (fun _ _ h => h)
  refine wp_append_ints _ (.tmp 12) (.tmp 18) rfl _ [] rfl hrow _ i (l.take i) rfl hs1 (by simp; omega) ?_
  intro v1 W1 o1 f1 k1
  try rw [List.nil_append] at o1
  have K1 : Keep (fun _ => False) w W1 := K0.then k1 (fun k hk => .inr (by have := Option.some.inj hk; dsimp only at this; omega))
  have F1 : ∀ k, v1.ownBlock = some k → w.heap.size ≤ k := fun k hk => (f1 k hk).elim (fun h => by have := Option.some.inj h; dsimp only at this; omega) (fun h => by have := K0.size; omega)
  have hs2 : Src W1 (.slice (some (if cap = i + 1 then ⟨g, 0, none⟩ else ⟨g, i + 1, none⟩)) (n - i) (cap - (i + 1))) (n - i) 1 (flat1 (l.drop (i + 1))) := (src_behind H.out.own LN.out hi _ rfl).keep K1 (fun _ _ h => h)
  obtain ⟨a1, n1, hv1⟩ := o1.form
  have hl1 : (l.take i).length = i := by rw [List.length_take, LN.out]; omega
  rw [hl1] at hv1
  subst hv1
  refine hK _ _ ((K1.cell (p := ⟨b, 0, none⟩) hb (fun h => h)).trans h2) ?_
  clear hK K f1 k1 hs1 hrow K0
  try simp only [Act.put, List.setIfInBounds_toArray, List.set_cons_zero, List.set_cons_succ]
  refine anyX_does 16 rfl (by kernel_rfl) (by rfl) (fun K hK => ?_)
  refine wp_append_ints _ (.tmp 19) (.tmp 26) rfl _ (l.take i) rfl o1 _ (n - i) (l.drop (i + 1)) ?_ hs2 (by rw [hl1]; omega) ?_
  · show Value.slice (if cap = i + 1 then some { block := g, off := 0 } else some { block := g, off := i + 1 }) (n - i) (cap - (i + 1)) = _
    split <;> rfl
  intro v2 W2 o2 f2 k2
  rw [← List.eraseIdx_eq_take_drop_succ] at o2
  have K3 : Keep (fun _ => False) w W2 := K1.then k2 (fun k hk => .inr (F1 k hk))
  have F2 : ∀ k, v2.ownBlock = some k → w.heap.size ≤ k := fun k hk => (f2 k hk).elim (fun h => F1 k h) (fun h => by have := K1.size; omega)
  obtain ⟨a2, n2, hv2⟩ := o2.form
  generalize (l.eraseIdx i).length = m2 at hv2
  subst hv2
  have hr := (K3.block b hb (fun h => h)).trans H.out.row
  have hne : (Value.slice a2 m2 n2).ownBlock ≠ some b := fun e => by have := F2 b e; omega
  have H1 := hid (OblAt.setList hr o2 hne)
  have h2' := (K3.cell (p := ⟨b, 0, none⟩) hb (fun h => h)).trans h2
  have hf : W2.frozen? ⟨b, 0, none⟩ = false := by simp [World.frozen?, hr]
  have HK := hid (K3.mono (G := G) fun k _ e => e.elim)
  have HF : Hid (∀ k, (Value.slice a2 m2 n2).ownBlock = some k → G k ∨ w.heap.size ≤ k) := fun k hk => .inr (F2 k hk)
  refine hK _ _ h2' ?_
  clear hK K hne K3 hr o2 K1 F1 o1 F2 f2 k2 hs2
  try simp only [Act.put, List.setIfInBounds_toArray, List.set_cons_zero, List.set_cons_succ]
  refine' anyX_calm (v := _) 17 rfl (by kernel_rfl) (by rfl) (fun W hW => ?_) ?_; rotate_left
  · ((try dsimp only at hW); go_simp; first | done | rfl)
  try simp only [Act.put, List.setIfInBounds_toArray, List.set_cons_zero, List.set_cons_succ]
  refine' anyX_calm (v := _) 18 rfl (by kernel_rfl) (by rfl) (fun W hW => ?_) ?_; rotate_left
  · ((try dsimp only at hW); go_simp; first | done | rfl)
  try simp only [Act.put, List.setIfInBounds_toArray, List.set_cons_zero, List.set_cons_succ]
  refine anyX_last 19 rfl (by kernel_rfl) (by rfl) (fun K hK => ?_)
  go_simp
  all_goals
    refine hK _ _ ?_
    clear hK K
    go_wp2
    all_goals
      go_ret
      exact ⟨rfl, HH.out.on (AfterL.mk HK.out hGb _ H1.out HF.out)⟩

set_option maxHeartbeats 1000000 in
theorem qdrop_no (t : Int) (X : Hid (idx l t = -1 ∨ idx l t = 0)) (h : LNew 51 w0 w G b [.bool o] l) (hn : l.length ≤ 1000) :
    Calls Try.prog 27 #[.pointer (some ⟨b, 0, none⟩), .int .i64 t] w fun en w' => en = .returned (.bool false) ∧ w = w' := by
  go_enter Try.func27, Try.ntmps27
  go_wp2_with fail
  refine (qat_any t h hn).mono ?_
  rintro _ _ ⟨rfl, rfl⟩
  rcases X.out with e | e
  all_goals
    rw [e]
    go_wp2
    go_ret
    exact ⟨rfl, rfl⟩

set_option maxHeartbeats 1000000 in
theorem qdoer_any (h : LNew 51 w0 w G b [.bool o] l) :
    Calls Try.prog 30 #[.pointer (some ⟨b, 0, none⟩)] w fun en w' => en = .returned (.int .i64 (l.headD 0)) ∧ w = w' := by
  obtain ⟨⟨hGb, hG, v, h, hGv⟩, _⟩ := h
  have h2 : w.cell? ⟨b, 0, none⟩ = some v := h.list
  have H := hid h.own.reads
  obtain ⟨a0, n0, hv⟩ := h.own.form
  have HV := hid hv
  rw [hv] at h2
  clear h hv hGv
  cases l with
  | nil =>
    go_enter Try.func30, Try.ntmps30
    go_wp2
    go_ret
    exact ⟨rfl, rfl⟩
  | cons x l =>
    obtain ⟨g, off, rfl, hx⟩ : ∃ g off, a0 = some ⟨g, off, none⟩ ∧ w.cell? ⟨g, off, none⟩ = some (.int .i64 x) := by
      rcases H.out with ⟨_, _, _, h0⟩ | ⟨g, off, c, h1, _, _, hc⟩
      · cases h0
      · rw [HV.out] at h1
        simp only [Value.slice.injEq] at h1
        exact ⟨g, off, h1.1, by simpa [nth] using hc 0 (by simp)⟩
    have h3 : ((l.length : Int) + 1 == 0) = false := by simp; omega
    have h4 : (0 : Int) < (l.length : Int) + 1 := by omega
    go_enter Try.func30, Try.ntmps30
    go_wp2
    go_ret
    exact ⟨rfl, rfl⟩
end
end Go.Proofs.Ytacogkmnmeekfaa
