/- The walks of package sema: Release, Drop, Waits; of a Sema that is nil; layer 13's fixed fact; SemaNone. -/
import Derived.Test.YtegpoocmhamlpaaSmC
namespace Go.Proofs.Ytegpoocmhamlpaa
open Go Go.RowKit

section
variable {w0 w : World} {G : Nat → Prop} {b : Nat} {S : SS}

/-- What a Release and a Drop answer, and what is there then. -/
def mrl (S : SS) (n : Int) : List Int × Int × SS :=
  if n < 1 ∨ n > S.size then ([], 1, S) else if S.free > S.size - n then ([], 13, S) else ((srv (S.free + n) S.l).1, 0, { S with free := (srv (S.free + n) S.l).2.1, l := (srv (S.free + n) S.l).2.2 })
def mdp (S : SS) (t : Int) : List Int × Bool × SS :=
  if t ∈ S.who then ((srv S.free (S.l.eraseIdx (S.who.idxOf t))).1, true, { S with free := (srv S.free (S.l.eraseIdx (S.who.idxOf t))).2.1, l := (srv S.free (S.l.eraseIdx (S.who.idxOf t))).2.2 }) else ([], false, S)

set_option maxHeartbeats 1000000 in
theorem mrel_any (n : Int) (h : MNew 69 w0 w G b (scs S)) (hg : SGood S) (hn : S.l.length ≤ 1000) {o : List Int} {e : Int} {S' : SS} (hb : mrl S n = (o, e, S')) :
    Calls Try.prog 15 #[.pointer (some ⟨b, 0, none⟩), .int .i64 n] w fun en w' => ∃ a m, en = .returned (.tuple #[.slice a o.length m, .int .i64 e]) ∧ OutM 69 w0 G w w' b (scs S') a m o := by
  have HH := hid h
  have HG := hid hg
  obtain ⟨hGb, vs, vL, hM, hvs, v2, oL, c0, c1, c2⟩ := h.sm
  have hf1 := hM.fro 1
  have g0 := hg.s1
  have g1 := hg.s16
  have g2 := hg.f0
  have g3 := hg.f1
  clear h hM hvs v2 hg oL c2
  unfold mrl at hb
  by_cases hn1 : n < 1
  · rw [if_pos (.inl hn1)] at hb
    cases hb
    go_enter Try.func15, Try.ntmps15
    go_wp2
    go_ret2
    exact ⟨_, _, rfl, OutM.none HH.out.stay⟩
  by_cases hz : n > S.size
  · rw [if_pos (.inr hz)] at hb
    cases hb
    have hz' : S.size < n := hz
    go_enter Try.func15, Try.ntmps15
    go_wp2
    go_ret2
    exact ⟨_, _, rfl, OutM.none HH.out.stay⟩
  rw [if_neg (by omega)] at hb
  have hz' : ¬ S.size < n := by omega
  have hw : IntKind.i64.wrap (S.size - n) = S.size - n := IntWalk.i64_in _ ⟨by omega, by omega⟩
  have k0 : Keep (fun _ => False) w w.drew := (Keep.refl _ _).drew
  have N0 := hid (HH.out.quiet k0)
  clear k0
  by_cases hf : S.free > S.size - n
  · rw [if_pos hf] at hb
    cases hb
    have hf' : S.size - n < S.free := hf
    go_enter Try.func15, Try.ntmps15
    go_wp2_with fail
    refine wp_region_text [0,0,0,1,0,0,0,1,0,0,0,0] (fun _ => True) (by kernel_rfl) (by kernel_rfl) trivial ?_
    repeat (first
      | (refine' wpT_calm (v := _) (by rfl) (fun W hW => ?_) ?_; rotate_left
         · ((try dsimp only at hW); go_simp; first | done | rfl)
         simp only [Act.put, List.setIfInBounds_toArray, List.set_cons_zero, List.set_cons_succ])
      | (refine' wpT_reads (v := _) (by rfl) ?_ ?_; rotate_left
         · (go_simp; first | done | rfl)
         simp only [Act.put, List.setIfInBounds_toArray, List.set_cons_zero, List.set_cons_succ])
      | (refine wpT_skip (by rfl) rfl ?_; simp only [Act.put, List.setIfInBounds_toArray, List.set_cons_zero, List.set_cons_succ])
      | (refine wpT_does (by rfl) (fun K hK => ?_); go_simp; refine hK _ _ ?_ ?_
         · (trivial)
         clear hK K; try simp only [Act.put, List.setIfInBounds_toArray, List.set_cons_zero, List.set_cons_succ])
      | (refine wpT_last (by rfl) (fun K hK => ?_); go_simp; refine hK _ _ ?_; clear hK K)
      | (refine wpT_nil ?_))
    go_wp2
    go_ret2
    exact ⟨_, _, rfl, OutM.none (StepM.same HH.out ((Keep.refl _ _).drew))⟩
  · rw [if_neg hf] at hb
    have hf' : ¬ S.size - n < S.free := by omega
    have hw2 : IntKind.i64.wrap (S.free + n) = S.free + n := IntWalk.i64_in _ ⟨by omega, by omega⟩
    obtain ⟨o1, f1, l1, hs⟩ : ∃ o1 f1 l1, srv (S.free + n) S.l = (o1, f1, l1) := ⟨_, _, _, rfl⟩
    rw [hs] at hb
    cases hb
    have HS := hid hs
    obtain ⟨G1, N1, J1, K1⟩ : StepM 69 w0 G w.drew (w.drew.setCell ⟨b, 1, none⟩ (.int .i64 (S.free + n))) b (scs { S with free := S.free + n }) := N0.out.scal (i := 1) (by simp [scs]) _ rfl
    have K1' : Keep G w (w.drew.setCell ⟨b, 1, none⟩ (.int .i64 (S.free + n))) := ((Keep.refl G w).drew).trans K1
    have N1 := hid N1
    have J1' : ∀ k, G1 k → G k ∨ w.heap.size ≤ k := J1
    have JK := hid (And.intro J1' K1')
    have G1' : Hid (SGood { S with free := S.free + n }) := hid ⟨HG.out.s1, HG.out.s16, by show 0 ≤ S.free + n; omega, by show S.free + n ≤ S.size; omega, HG.out.l⟩
    clear hs J1 J1' K1 K1' hf
    go_enter Try.func15, Try.ntmps15
    go_wp2_with fail
    refine wp_region_text [0,0,0,1,0,0,0,1,0,0,0,0] (fun _ => True) (by kernel_rfl) (by kernel_rfl) trivial ?_
    repeat (first
      | (refine' wpT_calm (v := _) (by rfl) (fun W hW => ?_) ?_; rotate_left
         · ((try dsimp only at hW); go_simp; first | done | rfl)
         simp only [Act.put, List.setIfInBounds_toArray, List.set_cons_zero, List.set_cons_succ])
      | (refine' wpT_reads (v := _) (by rfl) ?_ ?_; rotate_left
         · (go_simp; first | done | rfl)
         simp only [Act.put, List.setIfInBounds_toArray, List.set_cons_zero, List.set_cons_succ])
      | (refine wpT_skip (by rfl) rfl ?_; simp only [Act.put, List.setIfInBounds_toArray, List.set_cons_zero, List.set_cons_succ])
      | (refine wpT_does (by rfl) (fun K hK => ?_); go_simp; refine hK _ _ ?_ ?_
         · (trivial)
         clear hK K; try simp only [Act.put, List.setIfInBounds_toArray, List.set_cons_zero, List.set_cons_succ])
      | (refine wpT_last (by rfl) (fun K hK => ?_); go_simp; refine hK _ _ ?_; clear hK K)
      | (refine wpT_nil ?_))
    go_wp2_with fail
    first
      | refine (mserve_any (S := { S with free := S.free + n }) N1.out G1'.out hn HS.out).mono ?_
      | (rw [show (w.setCell ⟨b, 1, none⟩ (.int .i64 (S.free + n))).drew = w.drew.setCell ⟨b, 1, none⟩ (.int .i64 (S.free + n)) from rfl]; refine (mserve_any (S := { S with free := S.free + n }) N1.out G1'.out hn HS.out).mono ?_)
    rintro _ w2 ⟨a, m, rfl, hO⟩
    have O := hid (OutM.on JK.out.1 JK.out.2 hO)
    clear hO
    go_wp2
    go_ret2
    exact ⟨_, _, rfl, O.out⟩

set_option maxHeartbeats 1000000 in
theorem mdrop_any (t : Int) (h : MNew 69 w0 w G b (scs S)) (hg : SGood S) (hn : S.l.length ≤ 1000) {o : List Int} {e : Bool} {S' : SS} (hb : mdp S t = (o, e, S')) :
    Calls Try.prog 19 #[.pointer (some ⟨b, 0, none⟩), .int .i64 t] w fun en w' => ∃ a m, en = .returned (.tuple #[.slice a o.length m, .bool e]) ∧ OutM 69 w0 G w w' b (scs S') a m o := by
  have HH := hid h
  have HG := hid hg
  clear hg
  unfold mdp at hb
  by_cases hm : t ∈ S.who
  · rw [if_pos hm] at hb
    have hi : S.who.idxOf t < S.who.length := List.idxOf_lt_length_iff.2 hm
    have I := hid (idx_in hm)
    clear hm
    generalize S.who.idxOf t = i at hi I hb
    have hi2 : i < S.l.length := by simpa [SS.who] using hi
    obtain ⟨o1, f1, l1, hs⟩ : ∃ o1 f1 l1, srv S.free (S.l.eraseIdx i) = (o1, f1, l1) := ⟨_, _, _, rfl⟩
    rw [hs] at hb
    cases hb
    have HS := hid hs
    have G1 : Hid (SGood { S with l := S.l.eraseIdx i }) := hid ⟨HG.out.s1, HG.out.s16, HG.out.f0, HG.out.f1, fun p hp => HG.out.l p (List.mem_of_mem_eraseIdx hp)⟩
    have hle : (S.l.eraseIdx i).length ≤ 1000 := Nat.le_trans (List.length_eraseIdx_le _ _) hn
    have hi' : (i : Int) ≤ 1000 := by omega
    have hi0 : (0 : Int) ≤ (i : Int) := by omega
    clear hs h hi
    go_enter Try.func19, Try.ntmps19
    go_wp2_with fail
    refine (mfind_any t HH.out).mono ?_
    rintro _ w1 ⟨rfl, K1⟩
    rw [I.out]
    have N1 := HH.out.quiet K1
    obtain ⟨hGb, vs, vL, hM, hvs, v2, oL, c0, c1, c2⟩ := N1.sm
    have N1 := hid N1
    have M := hid hM
    have GV := hid hvs
    have V2 := hid v2
    have K1 := hid K1
    clear hM hvs v2 c0 c1
    go_wp2_with fail
    refine (deletep_any i _ _ rfl rfl hi2 oL).mono ?_
    rintro _ w2 ⟨y, rfl, o2, f2, k2⟩
    have st := N1.out.storedP M.out hGb GV.out V2.out k2 o2 (fun k hk => .inl (by rw [← f2]; exact hk))
    obtain ⟨h2, hf2⟩ := M.out.sp V2.out k2
    obtain ⟨G3, N3, J3, K3⟩ := st
    have N3' : MNew 69 w0 (w2.setCell ⟨b, 2, none⟩ y) G3 b (scs { S with l := S.l.eraseIdx i }) := N3
    have N3' := hid N3'
    have K3' := hid ((K1.out.mono fun _ _ h => h.elim : Keep G w w1).trans K3)
    have J3 := hid (fun k (hk : G3 k) => (J3 k hk).elim .inl (fun h => .inr (Nat.le_trans K1.out.size h)) : ∀ k, G3 k → G k ∨ w.heap.size ≤ k)
    obtain ⟨a2, n2, hy⟩ := o2.form
    generalize (S.l.eraseIdx i).length = m2 at hy hle
    subst hy
    have HLE : Hid ((S.l.eraseIdx i).length ≤ 1000) := hid (Nat.le_trans (List.length_eraseIdx_le _ _) hn)
    clear f2 k2 o2 K3 N3 oL c2
    go_wp2_with fail
    refine (mserve_any (S := { S with l := S.l.eraseIdx i }) N3'.out G1.out HLE.out HS.out).mono ?_
    rintro _ w4 ⟨a, m, rfl, hO⟩
    have O := hid (OutM.on J3.out K3'.out hO)
    clear hO
    go_wp2
    go_ret2
    exact ⟨_, _, rfl, O.out⟩
  · rw [if_neg hm] at hb
    cases hb
    have I := hid (idx_out hm)
    clear hm h
    go_enter Try.func19, Try.ntmps19
    go_wp2_with fail
    refine (mfind_any t HH.out).mono ?_
    rintro _ w1 ⟨rfl, K1⟩
    rw [I.out]
    have ST := hid (StepM.same HH.out K1)
    clear K1
    go_wp2
    go_ret2
    exact ⟨_, _, rfl, OutM.none ST.out⟩

set_option maxHeartbeats 4000000 in
theorem mwaits_any (h : MNew 69 w0 w G b (scs S)) (hn : S.l.length ≤ 1000) :
    Calls Try.prog 18 #[.pointer (some ⟨b, 0, none⟩)] w fun e w' => ∃ a n, e = .returned (.slice a S.l.length n) ∧ ReadI w' (.slice a S.l.length n) S.who ∧ MNew 69 w0 w' G b (scs S) ∧ Keep (fun _ => False) w w' ∧ ∀ k, (Value.slice a S.l.length n).ownBlock = some k → w.heap.size ≤ k ∧ k < w'.heap.size := by
  have HH := hid h
  obtain ⟨-, vs, vL, hM, -, -, oL, -, -, c2⟩ := h.sm
  have hb := hM.lt
  obtain ⟨aL, cL, hv⟩ := oL.form
  have HV := hid hv
  have OL := hid oL
  rw [hv] at c2
  clear h hM oL hv
  go_enter Try.func18, Try.ntmps18
  go_wp2_with fail
  go_loopw [3, 13] (fun r i wr => ∃ (k : Nat) (a : Option Addr) (c : Nat), k ≤ S.l.length ∧ i = .int .i64 k ∧ r = .slice a k c ∧ OwnI wr (.slice a k c) (S.who.take k) ∧ Keep (fun _ => False) w wr ∧ ∀ x, (Value.slice a k c).ownBlock = some x → w.heap.size ≤ x) (fun _ i _ => S.l.length - (intOf i).toNat)
  case atStart => exact ⟨0, _, _, Nat.zero_le _, rfl, rfl, OwnI.nil _, Keep.refl _ _, fun x hx => by simp [Value.ownBlock] at hx⟩
  case round =>
    obtain ⟨k, a, c, hk, rfl, rfl, hO, hK, hD⟩ := hrel
    have O := hid hO
    have K0 := hid hK
    have D := hid hD
    clear hO hK hD
    have hwl : S.who.length = S.l.length := by simp [SS.who]
    have htl : (S.who.take k).length = k := by rw [List.length_take, hwl]; omega
    by_cases hlt : k < S.l.length
    · obtain ⟨g, c', hv', hg, hmx, hc⟩ := OL.out.cells (by omega)
      have hav : aL = some ⟨g, 0, none⟩ ∧ cL = c' := by rw [HV.out] at hv'; cases hv'; exact ⟨rfl, rfl⟩
      obtain ⟨rfl, rfl⟩ := hav
      have k1 := (K0.out.cell (p := ⟨g, k * 2, none⟩) hg (fun h => h)).trans (hc k hlt).1
      have k2 := (K0.out.cell (p := ⟨g, k * 2 + 1, none⟩) hg (fun h => h)).trans (hc k hlt).2
      have hgr := Nat.lt_of_lt_of_le hg K0.out.size
      have hne := Nat.ne_of_lt hgr
      have hlt' : (k : Int) < (S.l.length : Int) := by omega
      have E : Hid (S.who.take k ++ [(at2 S.l k).1] = S.who.take (k + 1)) := hid (by
        rw [List.take_succ_eq_append_getElem (by rw [hwl]; exact hlt), ← at2_fst S.l k hlt, ← nth_get _ _ (by rw [hwl]; exact hlt)]; rfl)
      obtain ⟨x, hx⟩ : ∃ x, (at2 S.l k).1 = x := ⟨_, rfl⟩
      obtain ⟨y, hy⟩ : ∃ y, (at2 S.l k).2 = y := ⟨_, rfl⟩
      rw [hx] at k1 E
      rw [hy] at k2
      unfold maxLen at hmx
      clear hc hv' hx hy
      have K1 : Keep (fun _ => False) wr ((wr.alloc (.cells #[.int .i64 x, .int .i64 y] 71)).alloc (.cells #[.int .i64 x] 3)) := ((Keep.refl _ _).alloc _).alloc _
      have hown := O.out.keep K1 (fun _ _ h => h)
      have hsrc := one_srcI (wr.alloc (.cells #[.int .i64 x, .int .i64 y] 71)) x
      rw [World.size_alloc] at hsrc
      go_wp2_with (at_builtin; refine wpList_plain rfl (fun K hK => wp_append_ints _ (.tmp 17) (.tmp 20) rfl _ (S.who.take k) rfl hown _ 1 _ rfl hsrc (by omega) ?_))
      intro z w5 o5 f5 k5
      rw [E.out] at o5
      obtain ⟨a5, c5, hz⟩ := o5.form
      have ht5 : (S.who.take (k + 1)).length = k + 1 := by rw [List.length_take, hwl]; omega
      rw [ht5] at hz
      subst hz
      have K5 : Keep (fun _ => False) w w5 := (K0.out.trans K1).then k5 (fun x hx => .inr (D.out x hx))
      have D5 := hid (fun x hx => (f5 x hx).elim (D.out x) (fun h => by have := K0.out.size; have h' : wr.heap.size + 1 + 1 ≤ x := h; omega) : ∀ x, (Value.slice a5 (k + 1) c5).ownBlock = some x → w.heap.size ≤ x)
      have O5 := hid o5
      have K5 := hid K5
      refine hK _ _ ?_
      clear hK K f5 k5 o5 hown hsrc K1 ht5 htl
      go_wp2_with fail
      go_roundw
      case rel => exact ⟨k + 1, a5, c5, by omega, by go_num, rfl, O5.out, K5.out, D5.out⟩
      case measure => simp [intOf]; omega
    obtain rfl : k = S.l.length := by omega
    have hlt' : ¬ ((S.l.length : Int) < (S.l.length : Int)) := by omega
    have O' := O.out
    rw [List.take_of_length_le (by rw [hwl]; exact Nat.le_refl _)] at O'
    have O1 := hid O'
    clear htl O' O
    go_wp2_with fail
    refine (clip_any a S.l.length c (own_cap O1.out)).mono ?_
    rintro _ w2 ⟨rfl, rfl⟩
    go_wp2
    go_ret
    have R : ReadI wr (.slice a S.l.length c) S.who := O1.out.reads
    exact ⟨_, _, rfl, by rw [← hwl] at R ⊢; exact R.recap, HH.out.quiet K0.out, K0.out, fun x hx => by
      have hx' : (Value.slice a S.l.length c).ownBlock = some x := by cases a <;> exact hx
      exact ⟨D.out x hx', own_lt O1.out hx'⟩⟩
end

set_option maxHeartbeats 400000 in
theorem mtry_nil (t : Int) (n : Int) (w : World) : Calls Try.prog 22 #[.pointer none, .int .i64 t, .int .i64 n] w fun e w' => e = .returned (.int .i64 1) ∧ w = w' := by
  go_enter Try.func22, Try.ntmps22
  go_wp2
  go_ret
  exact ⟨rfl, rfl⟩

set_option maxHeartbeats 400000 in
theorem macq_nil (t : Int) (n : Int) (w : World) : Calls Try.prog 14 #[.pointer none, .int .i64 t, .int .i64 n] w fun e w' => e = .returned (.int .i64 1) ∧ w = w' := by
  go_enter Try.func14, Try.ntmps14
  go_wp2_with fail
  refine (mtry_nil t n w).mono ?_
  rintro _ _ ⟨rfl, rfl⟩
  go_wp2
  go_ret
  exact ⟨rfl, rfl⟩

set_option maxHeartbeats 400000 in
theorem mrel_nil (n : Int) (w : World) : Calls Try.prog 15 #[.pointer none, .int .i64 n] w fun e w' => e = .returned (.tuple #[.slice none 0 0, .int .i64 1]) ∧ w = w' := by
  go_enter Try.func15, Try.ntmps15
  go_wp2
  go_ret2
  exact ⟨rfl, rfl⟩

set_option maxHeartbeats 400000 in
theorem mdrop_nil (t : Int) (w : World) : Calls Try.prog 19 #[.pointer none, .int .i64 t] w fun e w' => e = .returned (.tuple #[.slice none 0 0, .bool false]) ∧ w = w' := by
  go_enter Try.func19, Try.ntmps19
  go_wp2
  go_ret2
  exact ⟨rfl, rfl⟩

set_option maxHeartbeats 400000 in
theorem mfree_nil (w : World) : Calls Try.prog 17 #[.pointer none] w fun e w' => e = .returned (.int .i64 0) ∧ w = w' := by
  go_enter Try.func17, Try.ntmps17
  go_wp2
  go_ret
  exact ⟨rfl, rfl⟩

set_option maxHeartbeats 400000 in
theorem msize_nil (w : World) : Calls Try.prog 24 #[.pointer none] w fun e w' => e = .returned (.int .i64 0) ∧ w = w' := by
  go_enter Try.func24, Try.ntmps24
  go_wp2
  go_ret
  exact ⟨rfl, rfl⟩

set_option maxHeartbeats 400000 in
theorem mwaits_nil (w : World) : Calls Try.prog 18 #[.pointer none] w fun e w' => e = .returned (.slice none 0 0) ∧ w = w' := by
  go_enter Try.func18, Try.ntmps18
  go_wp2
  go_ret
  exact ⟨rfl, rfl⟩

theorem good_0 (k : Int) (h1 : 1 ≤ k) (h2 : k ≤ 16) : SGood ⟨k, k, []⟩ := ⟨h1, h2, by show 0 ≤ k; omega, Int.le_refl _, fun p hp => by cases hp⟩

set_option maxRecDepth 10000 in
set_option maxHeartbeats 1000000 in
theorem mawake_any (w : World) : Calls Try.prog 16 #[] w fun en w' => en = .returned (.bool true) ∧ Keep (fun _ => False) w w' := by
  have gd : ∀ (f : Int) (l : List (Int × Int)), 0 ≤ f → f ≤ 3 → (∀ p ∈ l, 1 ≤ p.1 ∧ 1 ≤ p.2 ∧ p.2 ≤ 3) → SGood ⟨3, f, l⟩ := fun f l h1 h2 h3 => ⟨by show (1 : Int) ≤ 3; decide, by show (3 : Int) ≤ 16; decide, h1, h2, h3⟩
  go_enter Try.func16, Try.ntmps16
  go_wp2_with fail
  refine (mnew_any 3 w).mono ?_
  rintro e w1 ⟨rfl, G1, N1⟩
  rw [show szOf 3 = 3 from by decide] at N1
  go_wp2_with fail
  refine (macq_any 1 2 N1 (gd _ _ (by decide) (by decide) (by decide)) (by decide) (e := 0) (S' := ⟨3, 1, []⟩) (by decide)).mono ?_
  rintro e w2 ⟨rfl, G2, N2, -, -⟩
  clear N1
  go_wp2_with fail
  refine (macq_any 2 2 N2 (gd _ _ (by decide) (by decide) (by decide)) (by decide) (e := 14) (S' := ⟨3, 1, [(2, 2)]⟩) (by decide)).mono ?_
  rintro e w3 ⟨rfl, G3, N3, -, -⟩
  clear N2
  go_wp2_with fail
  refine (macq_any 3 1 N3 (gd _ _ (by decide) (by decide) (by decide)) (by decide) (e := 14) (S' := ⟨3, 1, [(2, 2), (3, 1)]⟩) (by decide)).mono ?_
  rintro e w4 ⟨rfl, G4, N4, -, -⟩
  clear N3
  go_wp2_with fail
  refine (mrel_any 1 N4 (gd _ _ (by decide) (by decide) (by decide)) (by decide) (o := [2]) (e := 0) (S' := ⟨3, 0, [(3, 1)]⟩) (by decide)).mono ?_
  rintro e w5 ⟨a5, m5, rfl, R5, -, G5, N5, -, Q5⟩
  clear N4
  go_wp2_with fail
  refine (mrel_any 2 N5 (gd _ _ (by decide) (by decide) (by decide)) (by decide) (o := [3]) (e := 0) (S' := ⟨3, 1, []⟩) (by decide)).mono ?_
  rintro e w6 ⟨a6, m6, rfl, R6, K6, G6, N6, -, -⟩
  have R5 := hid (R5.keep K6 fun k hk => (Q5 k hk).2.2)
  have R6 := hid R6
  have N6 := hid N6
  clear N5 Q5 K6
  go_wp2_with fail
  refine (ints_any (l := [2]) (m := [2]) (R5.out.keep ((Keep.refl (fun _ => False) _).alloc _) (fun _ _ h => h)) (made_ints w6 [2] (by decide)).reads).mono ?_
  rintro e w7 ⟨rfl, K7⟩
  have k7 : Keep (fun _ => False) w6 w7 := ((Keep.refl _ _).alloc _).trans K7
  have N7 := hid (N6.out.quiet k7)
  have R7 := hid (R6.out.keep k7 fun _ _ h => h)
  rw [show decide ([2] = [(2 : Int)]) = true from by decide]
  clear K7 k7
  go_wp2_with fail
  refine (ints_any (l := [3]) (m := [3]) (R7.out.keep ((Keep.refl (fun _ => False) _).alloc _) (fun _ _ h => h)) (made_ints w7 [3] (by decide)).reads).mono ?_
  rintro e w8 ⟨rfl, K8⟩
  have k8 : Keep (fun _ => False) w7 w8 := ((Keep.refl _ _).alloc _).trans K8
  have N8 := hid (N7.out.quiet k8)
  rw [show decide ([3] = [(3 : Int)]) = true from by decide]
  clear K8 k8
  go_wp2_with fail
  refine (mfree_any N8.out).mono ?_
  rintro e _ ⟨rfl, rfl⟩
  go_wp2_with fail
  refine (macq_any 1 4 N8.out (gd _ _ (by decide) (by decide) (by decide)) (by decide) (e := 1) (S' := ⟨3, 1, []⟩) (by decide)).mono ?_
  rintro e w9 ⟨rfl, G9, N9, -, -⟩
  have N9 := hid N9
  go_wp2
  go_ret
  exact ⟨rfl, N9.out.2.2⟩

set_option maxRecDepth 10000 in
set_option maxHeartbeats 400000 in
theorem walk_SemaNone (w : World) (t : Int) (_ : (Lit.int .i64 t).wf = true) (n : Int) (_ : (Lit.int .i64 n).wf = true) : Calls Try.prog 7 #[.int .i64 t, .int .i64 n] w fun en w' => en = .returned (.bool true) ∧ Below w.heap.size w w' := by
  go_enter Try.func7, Try.ntmps7
  go_wp2_with fail
  refine (mrel_nil n w).mono ?_
  rintro e _ ⟨rfl, rfl⟩
  go_wp2_with fail
  refine (mdrop_nil t w).mono ?_
  rintro e _ ⟨rfl, rfl⟩
  go_wp2_with fail
  refine (mawake_any w).mono ?_
  rintro e w2 ⟨rfl, K⟩
  have K := hid K
  go_wp2_with fail
  refine (macq_nil t n w2).mono ?_
  rintro e _ ⟨rfl, rfl⟩
  go_wp2_with fail
  refine (mtry_nil t n w2).mono ?_
  rintro e _ ⟨rfl, rfl⟩
  go_wp2_with fail
  refine (mfree_nil w2).mono ?_
  rintro e _ ⟨rfl, rfl⟩
  go_wp2_with fail
  refine (msize_nil w2).mono ?_
  rintro e _ ⟨rfl, rfl⟩
  go_wp2_with fail
  refine (mwaits_nil w2).mono ?_
  rintro e _ ⟨rfl, rfl⟩
  go_wp2
  go_ret
  exact ⟨rfl, K.out.below (fun _ h => h.elim) (Nat.le_refl _)⟩
end Go.Proofs.Ytegpoocmhamlpaa
