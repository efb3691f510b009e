/- The walks of package rw that turn it. -/
import Derived.Test.YtegpoocmhamlpaaRwA
namespace Go.Proofs.Ytegpoocmhamlpaa
open Go Go.RowKit
section
variable {w0 w : World} {G : Nat → Prop} {b : Nat} {S : RS}

/-- What a TryR answers, and what is there then. -/
def rtr (S : RS) (t : Int) : Int × RS := if rwr S t = 0 then (if S.d = 0 ∧ S.w = [] then (0, { S with r := S.r ++ [t] }) else (12, S)) else (rwr S t, S)

set_option maxHeartbeats 1000000 in
theorem rtryr_any (t : Int) (h : MNew 79 w0 w G b (rcs S)) (hn : S.r.length ≤ 1000) {e : Int} {S' : RS} (hb : rtr S t = (e, S')) :
    Calls Try.prog 28 #[.pointer (some ⟨b, 0, none⟩), .int .i64 t] w fun en w' => en = .returned (.int .i64 e) ∧ StepM 79 w0 G w w' b (rcs S') := by
  have HH := hid h
  obtain ⟨hGb, vs, vR, vW, vQ, hM, hvs, v1, v2, v3, oR, oW, oQ, c0, c1, c2, c3⟩ := h.rw
  have HM := hid hM
  have GV := hid hvs
  have V1 := hid v1
  have OR := hid oR
  obtain ⟨aL, nL, hvL⟩ := oW.form
  rw [hvL] at c2
  clear h hM hvs v1 v2 v3 hvL
  by_cases hwr : rwr S t = 0
  · have W := hid hwr
    by_cases hd0 : S.d = 0
    · have hz : (S.d != 0) = false := by simp [hd0]
      by_cases hl0 : S.w = []
      · obtain ⟨rfl, rfl⟩ : 0 = e ∧ { S with r := S.r ++ [t] } = S' := by simpa [rtr, hwr, hd0, hl0] using hb
        have hl1 : S.w.length = 0 := by rw [hl0]; rfl
        rw [hl1] at c2
        clear hb hwr hl0 hl1
        go_enter Try.func28, Try.ntmps28
        go_wp2_with fail
        refine (rwrong_any t HH.out).mono ?_
        rintro _ _ ⟨rfl, rfl⟩
        rw [W.out]
        have K0 : Keep (fun _ => False) w (w.alloc (.cells #[.int .i64 t] 3)) := (Keep.refl _ _).alloc _
        have hown := OR.out.keep K0 (fun _ _ h => h)
        have hsrc := one_srcI w t
        go_wp2_with (at_builtin; refine wpList_plain rfl (fun K hK => wp_append_ints _ (.tmp 29) (.tmp 31) rfl vR S.r rfl hown _ 1 _ rfl hsrc (by omega) ?_))
        intro y1 w1 o1 f1 k1
        have k2 : Keep (fun k => vR.ownBlock = some k) w w1 := (K0.mono fun _ _ h => h.elim).trans k1
        have st := HH.out.stored HM.out hGb GV.out V1.out k2 o1 (fun k hk => (f1 k hk).elim .inl (fun h => .inr (by omega)))
        obtain ⟨h1, hf⟩ := HM.out.sp V1.out k2
        have ST := hid st
        obtain ⟨a1, n1, hv1⟩ := o1.form
        generalize (S.r ++ [t]).length = m1 at hv1
        subst hv1
        refine hK _ _ ?_
        clear hK K f1 k1 k2 o1 st hown hsrc K0
        go_wp2
        go_ret
        exact ⟨rfl, ST.out⟩
      · obtain ⟨rfl, rfl⟩ : 12 = e ∧ S = S' := by simpa [rtr, hwr, hl0] using hb
        have hl1 : 0 < S.w.length := List.length_pos_iff.2 hl0
        obtain ⟨m, hm⟩ : ∃ m : Nat, S.w.length = m := ⟨_, rfl⟩
        rw [hm] at c2 hl1
        have hl2 : (0 : Int) < (m : Int) := by omega
        clear hb hwr hl0 hd0 hm
        go_enter Try.func28, Try.ntmps28
        go_wp2_with fail
        refine (rwrong_any t HH.out).mono ?_
        rintro _ _ ⟨rfl, rfl⟩
        rw [W.out]
        go_wp2
        go_ret
        exact ⟨rfl, HH.out.stay⟩
    · obtain ⟨rfl, rfl⟩ : 12 = e ∧ S = S' := by simpa [rtr, hwr, hd0] using hb
      have hz : (S.d != 0) = true := by simp [hd0]
      clear hb hd0 hwr
      go_enter Try.func28, Try.ntmps28
      go_wp2_with fail
      refine (rwrong_any t HH.out).mono ?_
      rintro _ _ ⟨rfl, rfl⟩
      rw [W.out]
      go_wp2
      go_ret
      exact ⟨rfl, HH.out.stay⟩
  · obtain ⟨he, rfl⟩ : rwr S t = e ∧ S = S' := by simpa [rtr, hwr] using hb
    have hz : (e != 0) = true := by rw [← he]; simp [hwr]
    have HE := hid he
    clear hb hwr he
    go_enter Try.func28, Try.ntmps28
    go_wp2_with fail
    refine (rwrong_any t HH.out).mono ?_
    rintro _ _ ⟨rfl, rfl⟩
    rw [HE.out]
    go_wp2
    go_ret
    exact ⟨rfl, HH.out.stay⟩

/-- What a Try answers, and what is there then. -/
def rtw (S : RS) (t : Int) : Int × RS := if rwr S t = 0 then (if S.d = 0 ∧ S.r = [] then (0, { S with d := t }) else (12, S)) else (rwr S t, S)

set_option maxHeartbeats 1000000 in
theorem rtry_any (t : Int) (h : MNew 79 w0 w G b (rcs S)) (hn : S.r.length ≤ 1000) {e : Int} {S' : RS} (hb : rtw S t = (e, S')) :
    Calls Try.prog 38 #[.pointer (some ⟨b, 0, none⟩), .int .i64 t] w fun en w' => en = .returned (.int .i64 e) ∧ StepM 79 w0 G w w' b (rcs S') := by
  have HH := hid h
  obtain ⟨hGb, vs, vR, vW, vQ, hM, hvs, v1, v2, v3, oR, oW, oQ, c0, c1, c2, c3⟩ := h.rw
  have HM := hid hM
  have GV := hid hvs
  have V1 := hid v1
  have OR := hid oR
  obtain ⟨aL, nL, hvL⟩ := oR.form
  rw [hvL] at c1
  clear h hM hvs v1 v2 v3 hvL
  by_cases hwr : rwr S t = 0
  · have W := hid hwr
    by_cases hd0 : S.d = 0
    · have hz : (S.d != 0) = false := by simp [hd0]
      by_cases hl0 : S.r = []
      · obtain ⟨rfl, rfl⟩ : 0 = e ∧ { S with d := t } = S' := by simpa [rtw, hwr, hd0, hl0] using hb
        have hl1 : S.r.length = 0 := by rw [hl0]; rfl
        rw [hl1] at c1
        clear hb hwr hl0 hl1
        have hf := HM.out.fro 0
        have st := HH.out.scal (i := 0) (by simp [rcs]) (.int .i64 t) rfl
        have ST : Hid (StepM 79 w0 G w (w.setCell ⟨b, 0, none⟩ (.int .i64 t)) b (rcs { S with d := t })) := hid st
        clear st
        go_enter Try.func38, Try.ntmps38
        go_wp2_with fail
        refine (rwrong_any t HH.out).mono ?_
        rintro _ _ ⟨rfl, rfl⟩
        rw [W.out]
        go_wp2
        go_ret
        exact ⟨rfl, ST.out⟩
      · obtain ⟨rfl, rfl⟩ : 12 = e ∧ S = S' := by simpa [rtw, hwr, hl0] using hb
        have hl1 : 0 < S.r.length := List.length_pos_iff.2 hl0
        obtain ⟨m, hm⟩ : ∃ m : Nat, S.r.length = m := ⟨_, rfl⟩
        rw [hm] at c1 hl1
        have hl2 : (0 : Int) < (m : Int) := by omega
        clear hb hwr hl0 hd0 hm
        go_enter Try.func38, Try.ntmps38
        go_wp2_with fail
        refine (rwrong_any t HH.out).mono ?_
        rintro _ _ ⟨rfl, rfl⟩
        rw [W.out]
        go_wp2
        go_ret
        exact ⟨rfl, HH.out.stay⟩
    · obtain ⟨rfl, rfl⟩ : 12 = e ∧ S = S' := by simpa [rtw, hwr, hd0] using hb
      have hz : (S.d != 0) = true := by simp [hd0]
      clear hb hd0 hwr
      go_enter Try.func38, Try.ntmps38
      go_wp2_with fail
      refine (rwrong_any t HH.out).mono ?_
      rintro _ _ ⟨rfl, rfl⟩
      rw [W.out]
      go_wp2
      go_ret
      exact ⟨rfl, HH.out.stay⟩
  · obtain ⟨he, rfl⟩ : rwr S t = e ∧ S = S' := by simpa [rtw, hwr] using hb
    have hz : (e != 0) = true := by rw [← he]; simp [hwr]
    have HE := hid he
    clear hb hwr he
    go_enter Try.func38, Try.ntmps38
    go_wp2_with fail
    refine (rwrong_any t HH.out).mono ?_
    rintro _ _ ⟨rfl, rfl⟩
    rw [HE.out]
    go_wp2
    go_ret
    exact ⟨rfl, HH.out.stay⟩

/-- What a RLock answers, and what is there then. -/
def rlr (S : RS) (t : Int) : Int × RS := if (rtr S t).1 = 12 then (14, { S with q := S.q ++ [t] }) else rtr S t

theorem rtr_busy {t : Int} {S' : RS} (h : rtr S t = (12, S')) : S' = S := by
  unfold rtr at h
  split at h
  · split at h
    · cases h
    · exact (congrArg Prod.snd h).symm
  · exact (congrArg Prod.snd h).symm

set_option maxHeartbeats 1000000 in
theorem rrlock_any (t : Int) (h : MNew 79 w0 w G b (rcs S)) (hn : S.r.length ≤ 1000) (hm : S.q.length ≤ 1000) {e : Int} {S' : RS} (hb : rlr S t = (e, S')) :
    Calls Try.prog 27 #[.pointer (some ⟨b, 0, none⟩), .int .i64 t] w fun en w' => en = .returned (.int .i64 e) ∧ StepM 79 w0 G w w' b (rcs S') := by
  obtain ⟨e1, S1, htr⟩ : ∃ e1 S1, rtr S t = (e1, S1) := ⟨_, _, rfl⟩
  unfold rlr at hb
  rw [htr] at hb
  dsimp only at hb
  by_cases he : e1 = 12
  · rw [if_pos he] at hb
    subst he
    have e2 := rtr_busy htr
    subst e2
    cases hb
    have HT := hid htr
    go_enter Try.func27, Try.ntmps27
    go_wp2_with fail
    refine (rtryr_any t h hn HT.out).mono ?_
    rintro _ w2 ⟨rfl, G2, N2, J2, K2⟩
    have HH2 := hid N2
    have JK := hid (And.intro J2 K2)
    obtain ⟨hGb, vs, vR, vW, vQ, hM, hvs, v1, v2, v3, oR, oW, oQ, c0, c1, c2, c3⟩ := N2.rw
    have HM := hid hM
    have GV := hid hvs
    have V1 := hid v3
    have OR := hid oQ
    clear h hM hvs v1 v2 v3 htr J2 K2 N2
    have K0 : Keep (fun _ => False) w2 (w2.alloc (.cells #[.int .i64 t] 3)) := (Keep.refl _ _).alloc _
    have hown := OR.out.keep K0 (fun _ _ h => h)
    have hsrc := one_srcI w2 t
    go_wp2_with (at_builtin; refine wpList_plain rfl (fun K hK => wp_append_ints _ (.tmp 16) (.tmp 18) rfl vQ S1.q rfl hown _ 1 _ rfl hsrc (by omega) ?_))
    intro y1 w1 o1 f1 k1
    have k2 : Keep (fun k => vQ.ownBlock = some k) w2 w1 := (K0.mono fun _ _ h => h.elim).trans k1
    have st := HH2.out.stored HM.out hGb GV.out V1.out k2 o1 (fun k hk => (f1 k hk).elim .inl (fun h => .inr (by omega)))
    obtain ⟨h1, hf⟩ := HM.out.sp V1.out k2
    have ST := hid st
    obtain ⟨a1, n1, hv1⟩ := o1.form
    generalize (S1.q ++ [t]).length = m1 at hv1
    subst hv1
    refine hK _ _ ?_
    clear hK K f1 k1 k2 o1 st hown hsrc K0
    go_wp2
    go_ret
    exact ⟨rfl, StepM.trans ⟨HH2.out, JK.out.1, JK.out.2⟩ ST.out⟩
  · rw [if_neg he] at hb
    cases hb
    have HT := hid htr
    have he1 : (e != 12) = true := by simp [he]
    clear htr he
    go_enter Try.func27, Try.ntmps27
    go_wp2_with fail
    refine (rtryr_any t h hn HT.out).mono ?_
    rintro _ w2 ⟨rfl, st⟩
    have ST := hid st
    clear st
    go_wp2
    go_ret
    exact ⟨rfl, ST.out⟩

/-- What a Lock answers, and what is there then. -/
def rlw (S : RS) (t : Int) : Int × RS := if (rtw S t).1 = 12 then (14, { S with w := S.w ++ [t] }) else rtw S t

theorem rtw_busy {t : Int} {S' : RS} (h : rtw S t = (12, S')) : S' = S := by
  unfold rtw at h
  split at h
  · split at h
    · cases h
    · exact (congrArg Prod.snd h).symm
  · exact (congrArg Prod.snd h).symm

set_option maxHeartbeats 1000000 in
theorem rlock_any (t : Int) (h : MNew 79 w0 w G b (rcs S)) (hn : S.r.length ≤ 1000) (hm : S.w.length ≤ 1000) {e : Int} {S' : RS} (hb : rlw S t = (e, S')) :
    Calls Try.prog 26 #[.pointer (some ⟨b, 0, none⟩), .int .i64 t] w fun en w' => en = .returned (.int .i64 e) ∧ StepM 79 w0 G w w' b (rcs S') := by
  obtain ⟨e1, S1, htr⟩ : ∃ e1 S1, rtw S t = (e1, S1) := ⟨_, _, rfl⟩
  unfold rlw at hb
  rw [htr] at hb
  dsimp only at hb
  by_cases he : e1 = 12
  · rw [if_pos he] at hb
    subst he
    have e2 := rtw_busy htr
    subst e2
    cases hb
    have HT := hid htr
    go_enter Try.func26, Try.ntmps26
    go_wp2_with fail
    refine (rtry_any t h hn HT.out).mono ?_
    rintro _ w2 ⟨rfl, G2, N2, J2, K2⟩
    have HH2 := hid N2
    have JK := hid (And.intro J2 K2)
    obtain ⟨hGb, vs, vR, vW, vQ, hM, hvs, v1, v2, v3, oR, oW, oQ, c0, c1, c2, c3⟩ := N2.rw
    have HM := hid hM
    have GV := hid hvs
    have V1 := hid v2
    have OR := hid oW
    clear h hM hvs v1 v2 v3 htr J2 K2 N2
    have K0 : Keep (fun _ => False) w2 (w2.alloc (.cells #[.int .i64 t] 3)) := (Keep.refl _ _).alloc _
    have hown := OR.out.keep K0 (fun _ _ h => h)
    have hsrc := one_srcI w2 t
    go_wp2_with (at_builtin; refine wpList_plain rfl (fun K hK => wp_append_ints _ (.tmp 16) (.tmp 18) rfl vW S1.w rfl hown _ 1 _ rfl hsrc (by omega) ?_))
    intro y1 w1 o1 f1 k1
    have k2 : Keep (fun k => vW.ownBlock = some k) w2 w1 := (K0.mono fun _ _ h => h.elim).trans k1
    have st := HH2.out.stored HM.out hGb GV.out V1.out k2 o1 (fun k hk => (f1 k hk).elim .inl (fun h => .inr (by omega)))
    obtain ⟨h1, hf⟩ := HM.out.sp V1.out k2
    have ST := hid st
    obtain ⟨a1, n1, hv1⟩ := o1.form
    generalize (S1.w ++ [t]).length = m1 at hv1
    subst hv1
    refine hK _ _ ?_
    clear hK K f1 k1 k2 o1 st hown hsrc K0
    go_wp2
    go_ret
    exact ⟨rfl, StepM.trans ⟨HH2.out, JK.out.1, JK.out.2⟩ ST.out⟩
  · rw [if_neg he] at hb
    cases hb
    have HT := hid htr
    have he1 : (e != 12) = true := by simp [he]
    clear htr he
    go_enter Try.func26, Try.ntmps26
    go_wp2_with fail
    refine (rtry_any t h hn HT.out).mono ?_
    rintro _ w2 ⟨rfl, st⟩
    have ST := hid st
    clear st
    go_wp2
    go_ret
    exact ⟨rfl, ST.out⟩


/-- It is handed on: to whom, and what is there then. -/
def rhd (S : RS) : List Int × RS :=
  if S.d ≠ 0 then ([], S) else match S.w with
  | [] => (S.q, { S with r := S.r ++ S.q, q := [] })
  | x :: l => if S.r = [] then ([x], { S with d := x, w := l }) else ([], S)

theorem rhand_held (h : MNew 79 w0 w G b (rcs S)) (hd : S.d ≠ 0) :
    Calls Try.prog 48 #[.pointer (some ⟨b, 0, none⟩)] w fun en w' => en = .returned (.slice none 0 0) ∧ w = w' := by
  obtain ⟨-, vs, vR, vW, vQ, -, -, -, -, -, -, -, -, c0, -⟩ := h.rw
  have hz : (S.d != 0) = true := by simp [hd]
  clear h hd
  go_enter Try.func48, Try.ntmps48
  go_wp2
  go_ret
  exact ⟨rfl, rfl⟩

theorem rhand_busy (h : MNew 79 w0 w G b (rcs S)) (hd : S.d = 0) (hw : S.w ≠ []) (hr : S.r ≠ []) (hn : S.r.length ≤ 1000) (hm : S.w.length ≤ 1000) :
    Calls Try.prog 48 #[.pointer (some ⟨b, 0, none⟩)] w fun en w' => en = .returned (.slice none 0 0) ∧ w = w' := by
  obtain ⟨-, vs, vR, vW, vQ, -, -, -, -, -, oR, oW, -, c0, c1, c2, -⟩ := h.rw
  have hz : (S.d != 0) = false := by simp [hd]
  obtain ⟨aR, nR, hvR⟩ := oR.form
  obtain ⟨aW, nW, hvW⟩ := oW.form
  rw [hvR] at c1
  rw [hvW] at c2
  have l1 := List.length_pos_iff.2 hr
  have l2 := List.length_pos_iff.2 hw
  clear h hd oR oW hvR hvW hr hw
  generalize S.r.length = m1 at c1 l1 hn
  generalize S.w.length = m2 at c2 l2 hm
  have l3 : (0 : Int) < (m1 : Int) := by omega
  have l4 : ((m2 : Int) == 0) = false := by simp; omega
  go_enter Try.func48, Try.ntmps48
  go_wp2
  go_ret
  exact ⟨rfl, rfl⟩

set_option maxHeartbeats 1000000 in
theorem rhand_read (h : MNew 79 w0 w G b (rcs S)) (hd : S.d = 0) (hw : S.w = []) (hn : S.r.length + S.q.length ≤ 1000) :
    Calls Try.prog 48 #[.pointer (some ⟨b, 0, none⟩)] w fun en w' => ∃ a m, en = .returned (.slice a S.q.length m) ∧ OutM 79 w0 G w w' b (rcs { S with r := S.r ++ S.q, q := [] }) a m S.q := by
  have HH := hid h
  obtain ⟨hGb, vs, vR, vW, vQ, hM, hvs, v1, v2, v3, oR, oW, oQ, c0, c1, c2, c3⟩ := h.rw
  have hz : (S.d != 0) = false := by simp [hd]
  obtain ⟨aW, nW, hvW⟩ := oW.form
  rw [hvW, hw] at c2
  simp only [List.length_nil] at c2
  obtain ⟨aQ, nQ, hvQ⟩ := oQ.form
  have HQ := hid hvQ
  have OR := hid oR
  have OQ := hid oQ
  have M := hid hM
  have GV := hid hvs
  have V1 := hid v1
  have V3 := hid v3
  have hle : S.q.length ≤ nQ := own_cap (by rw [← hvQ]; exact oQ)
  rw [hvQ] at c3
  have hsrc := hid oQ.src
  rw [hvQ] at hsrc
  clear h hd hw oW hvW v1 v2 v3 hM hvs oR oQ hvQ
  go_enter Try.func48, Try.ntmps48
  go_wp2_with (at_builtin; refine wpList_plain rfl (fun K hK => wp_append_ints _ (.tmp 26) (.tmp 27) rfl vR S.r rfl OR.out _ S.q.length _ rfl hsrc.out (by omega) ?_))
  intro y1 w1 o1 f1 k1
  have hf1 : ∀ k, y1.ownBlock = some k → vR.ownBlock = some k ∨ w.heap.size ≤ k := f1
  obtain ⟨h1, hf⟩ := M.out.sp V1.out k1
  have hne : y1.ownBlock ≠ some b := fun e => by
    obtain ⟨c, _, hf⟩ := M.out.mob.at V1.out
    rcases f1 b e with h1 | h1
    · exact hf.ne h1
    · have := M.out.lt; omega
  have M1 := M.out.setList (c' := .ci (S.r ++ S.q)) V1.out k1 ⟨o1, hne⟩ f1
  have hvQb : vQ.ownBlock ≠ some b := by
    obtain ⟨c, _, hf⟩ := M.out.mob.at V3.out
    exact hf.ne
  have V3' : (vs.set 1 y1)[3]? = some vQ := by rw [List.getElem?_set_ne (by decide)]; exact V3.out
  have M2 := M1.setList (i := 3) (v' := .slice none 0 0) (c' := .ci []) V3' (Keep.refl _ _) ⟨OwnI.nil _, by simp [Value.ownBlock]⟩ (fun k hk => by simp [Value.ownBlock] at hk)
  have hap : ∀ k, vQ.ownBlock = some k → ¬ (vR.ownBlock = some k) := fun k hk => M.out.mob.apart 3 1 vQ vR k V3.out V1.out (by decide) hk
  have oQ1 : OwnI w1 vQ S.q := OQ.out.keep k1 (fun k hk => hap k hk)
  have oQ2 : OwnI ((w1.setCell ⟨b, 1, none⟩ y1).setCell ⟨b, 3, none⟩ (.slice none 0 0)) vQ S.q :=
    oQ1.keep (F := fun k => k = b) (((Keep.refl _ _).setOwn _).setOwn _) (fun k hk e => hvQb (by rw [hk, e]))
  have K2 : Keep G w ((w1.setCell ⟨b, 1, none⟩ y1).setCell ⟨b, 3, none⟩ (.slice none 0 0)) :=
    ((k1.mono fun k _ e => GV.out vR (List.mem_of_getElem? V1.out) k e).setCell (.inl hGb) _).setCell (.inl hGb) _
  have own2 : ∀ v ∈ (vs.set 1 y1).set 3 (.slice none 0 0), ∀ k, v.ownBlock = some k → G k ∨ w.heap.size ≤ k := fun v hv k hk => by
    rcases List.mem_or_eq_of_mem_set hv with hv | rfl
    · rcases List.mem_or_eq_of_mem_set hv with hv | rfl
      · exact .inl (GV.out v hv k hk)
      · exact (hf1 k hk).elim (fun e => .inl (GV.out vR (List.mem_of_getElem? V1.out) k e)) .inr
    · simp [Value.ownBlock] at hk
  have apart2 : ∀ k, vQ.ownBlock = some k → ¬ (k = b ∨ ∃ v ∈ (vs.set 1 y1).set 3 (.slice none 0 0), v.ownBlock = some k) := fun k hk h => by
    rcases h with rfl | ⟨v, hv, hk'⟩
    · exact hvQb hk
    · obtain ⟨j, hj⟩ := List.mem_iff_getElem?.1 hv
      by_cases e : 3 = j
      · subst e
        obtain ⟨hlt, he⟩ := List.getElem?_eq_some_iff.1 hj
        rw [List.getElem_set_self] at he
        subst he
        simp [Value.ownBlock] at hk'
      · rw [List.getElem?_set_ne e] at hj
        exact M1.mob.apart 3 j vQ v k V3' hj e hk hk'
  have fin : OutM 79 w0 G w ((w1.setCell ⟨b, 1, none⟩ y1).setCell ⟨b, 3, none⟩ (.slice none 0 0)) b (rcs { S with r := S.r ++ S.q, q := [] }) aQ S.q.length S.q := by
    have K2' := K2
    obtain ⟨_, hN2, hN3⟩ := HH.out
    have I2 := IsMob.of M2
    have R2 := oQ2.reads
    rw [HQ.out] at R2
    have up : ∀ k, (k = b ∨ ∃ v ∈ (vs.set 1 y1).set 3 (.slice none 0 0), v.ownBlock = some k) → G k ∨ w.heap.size ≤ k := fun k hk => hk.elim (fun e => .inl (e ▸ hGb)) (fun ⟨v, hv, hk⟩ => own2 v hv k hk)
    refine ⟨R2.recap, K2, _, ⟨I2, fun k hk => (up k hk).elim (hN2 k) (fun h => Nat.le_trans hN3.size h), hN3.then K2 fun k hk => .inr (hN2 k hk)⟩, up, fun k hk => ?_⟩
    have hkQ : vQ.ownBlock = some k := by rw [HQ.out]; cases aQ <;> exact hk
    exact ⟨.inl (GV.out vQ (List.mem_of_getElem? V3.out) k hkQ), own_lt oQ2 hkQ, apart2 k hkQ⟩
  have FIN := hid fin
  have c3' : w1.cell? ⟨b, 3, none⟩ = some (.slice aQ S.q.length nQ) := by
    rw [← HQ.out]
    have hb : ¬ (vR.ownBlock = some b) := by
      obtain ⟨c, _, hf⟩ := M.out.mob.at V1.out
      exact hf.ne
    exact (k1.cell (p := ⟨b, 3, none⟩) M.out.lt hb).trans (M.out.cell V3.out)
  have hf3 : w1.frozen? ⟨b, 3, none⟩ = false := by
    have hb : ¬ (vR.ownBlock = some b) := by
      obtain ⟨c, _, hf⟩ := M.out.mob.at V1.out
      exact hf.ne
    exact (k1.frozen (p := ⟨b, 3, none⟩) M.out.lt hb).trans (M.out.fro 3)
  obtain ⟨a1, n1, hv1⟩ := o1.form
  generalize (S.r ++ S.q).length = m1 at hv1
  subst hv1
  refine hK _ _ ?_
  clear hK K f1 hf1 k1 o1 hne M1 M2 hap oQ1 oQ2 K2 own2 apart2 fin hvQb V3'
  go_wp2_with fail
  refine (clip_any aQ S.q.length nQ hle).mono ?_
  rintro _ w2 ⟨rfl, rfl⟩
  go_wp2
  go_ret
  exact ⟨_, _, rfl, FIN.out⟩

set_option maxRecDepth 10000 in
set_option maxHeartbeats 1000000 in
theorem rhand_write (x : Int) (l : List Int) (h : MNew 79 w0 w G b (rcs S)) (hd : S.d = 0) (hw : S.w = x :: l) (hr : S.r = []) (hn : S.w.length ≤ 1000) :
    Calls Try.prog 48 #[.pointer (some ⟨b, 0, none⟩)] w fun en w' => ∃ a m, en = .returned (.slice a 1 m) ∧ OutM 79 w0 G w w' b (rcs { S with d := x, w := l }) a m [x] := by
  have HH := hid h
  obtain ⟨hGb, vs, vR, vW, vQ, hM, hvs, v1, v2, v3, oR, oW, oQ, c0, c1, c2, c3⟩ := h.rw
  have hz : (S.d != 0) = false := by simp [hd]
  obtain ⟨aR, nR, hvR⟩ := oR.form
  rw [hvR, hr] at c1
  simp only [List.length_nil] at c1
  have hl : S.w.length = l.length + 1 := by rw [hw]; rfl
  obtain ⟨g, off, a0, n0, hv, ha0, hx, hgb⟩ : ∃ g off, ∃ a0 n0, vW = .slice a0 (l.length + 1) n0 ∧ a0 = some ⟨g, off, none⟩ ∧ w.cell? ⟨g, off, none⟩ = some (.int .i64 x) ∧ g ≠ b := by
    rcases oW.reads with ⟨_, _, _, h0⟩ | ⟨g, off, c, h1, _, _, hc⟩
    · rw [hw] at h0; cases h0
    · rw [hl] at h1 hc
      refine ⟨g, off, _, c, h1, rfl, by have := hc 0 (by omega); rw [hw] at this; simpa [nth] using this, fun e => ?_⟩
      obtain ⟨cc, _, hf⟩ := hM.mob.at v2
      refine hf.ne ?_
      rw [h1, e]; rfl
  subst ha0
  have c2' : w.cell? ⟨b, 2, none⟩ = some (.slice (some ⟨g, off, none⟩) (l.length + 1) n0) := by rw [c2, hv]
  have hl2 : (0 : Int) < (l.length : Int) + 1 := by omega
  have hl3 : (((l.length : Int) + 1) == 0) = false := by simp; omega
  have hl1 : (l.length : Int) + 1 ≤ 1001 := by omega
  have hgb' : b ≠ g := fun e => hgb e.symm
  have hf0 := hM.fro 0
  obtain ⟨G1, N1, J1, K1⟩ : StepM 79 w0 G w (w.setCell ⟨b, 0, none⟩ (.int .i64 x)) b (rcs { S with d := x }) := HH.out.scal (i := 0) (by simp [rcs]) (.int .i64 x) rfl
  have N1 := hid N1
  have JK := hid (And.intro J1 K1)
  obtain ⟨hGb1, vs1, uR, uW, uQ, hM1, hvs1, u1, u2, u3, pR, pW, pQ, d0, d1, d2, d3⟩ := N1.out.rw
  have eW : uW = .slice (some ⟨g, off, none⟩) (l.length + 1) n0 := by
    rw [World.cell?_setCell_other _ _ _ _ (by simp), c2'] at d2
    exact (Option.some.inj d2).symm
  have PW : Hid (OwnI (w.setCell ⟨b, 0, none⟩ (.int .i64 x)) uW (x :: l)) := hid (by rw [← hw]; exact pW)
  have EW := hid eW
  have M1 := hid hM1
  have GV1 := hid hvs1
  have U2 := hid u2
  clear h hd hw oR oW hvR v1 v2 v3 hM hvs hr hl hv c2 J1 K1 pR pW pQ u1 u2 u3 hM1 hvs1 d0 d1 d2 d3 oQ c3 eW hn
  go_enter Try.func48, Try.ntmps48
  go_wp2_with fail
  refine (delete_any 0 0 1 rfl rfl (by simp) (l := x :: l) (v := .slice (some ⟨g, off, none⟩) (l.length + 1) n0) (by rw [← EW.out]; exact PW.out)).mono ?_
  rintro _ w1 ⟨y1, rfl, o1, f1, k1⟩
  rw [← EW.out] at f1 k1
  replace o1 : OwnI w1 y1 l := o1
  have st := N1.out.stored M1.out hGb1 GV1.out U2.out k1 o1 (fun k hk => .inl (by rw [← f1]; exact hk))
  obtain ⟨h1, hf⟩ := M1.out.sp U2.out k1
  have st2 : StepM 79 w0 G w (w1.setCell ⟨b, 2, none⟩ y1) b (rcs { S with d := x, w := l }) := StepM.trans ⟨N1.out, JK.out.1, JK.out.2⟩ st
  obtain ⟨G3, N3, J3, K3⟩ := st2
  have e0 := N3.rw.2
  obtain ⟨_, _, _, _, _, _, _, _, _, _, _, _, e0, _⟩ := e0
  have N3 := hid N3
  have JK3 := hid (And.intro J3 K3)
  have e1 : w1.cell? ⟨b, 0, none⟩ = some (.int .i64 x) := by
    rw [World.cell?_setCell_other _ _ _ _ (by simp)] at e0
    exact e0
  obtain ⟨a1, n1, hv1⟩ := o1.form
  generalize l.length = m1 at hv1
  subst hv1
  clear f1 k1 o1 st J3 K3 e0
  go_wp2
  go_ret
  refine ⟨_, _, rfl, ?_⟩
  have K4 := JK3.out.2.alloc (.cells #[.int .i64 x] 3)
  have ok := made_ints (w1.setCell ⟨b, 2, none⟩ (.slice a1 m1 n1)) [x] (by simp [maxLen])
  have hsz : (w1.setCell ⟨b, 2, none⟩ (.slice a1 m1 n1)).heap.size = w1.heap.size := by simp [World.setCell]
  have okr := ok.reads
  rw [hsz] at okr
  refine ⟨okr, K4, G3, N3.out.quiet ((Keep.refl _ _).alloc _), JK3.out.1, fun k hk => ?_⟩
  have e : w1.heap.size = k := Option.some.inj hk
  have hs := JK3.out.2.size
  rw [hsz] at hs
  refine ⟨.inr (by omega), by rw [← e, ← hsz]; simp [World.alloc], fun hg => ?_⟩
  have := N3.out.1.2.1 k hg
  rw [hsz] at this
  omega

theorem rhand_any (h : MNew 79 w0 w G b (rcs S)) (h1 : S.r.length + S.q.length ≤ 1000) (h2 : S.w.length ≤ 1000) {o : List Int} {S' : RS} (hb : rhd S = (o, S')) :
    Calls Try.prog 48 #[.pointer (some ⟨b, 0, none⟩)] w fun en w' => ∃ a m, en = .returned (.slice a o.length m) ∧ OutM 79 w0 G w w' b (rcs S') a m o := by
  unfold rhd at hb
  by_cases hd : S.d = 0
  · rw [if_neg (by simp [hd])] at hb
    cases hw : S.w with
    | nil =>
      rw [hw] at hb
      cases hb
      refine (rhand_read h hd hw h1).mono ?_
      rintro e w' ⟨a, m, rfl, hO⟩
      rw [← hw] at hO ⊢
      exact ⟨a, m, rfl, hO⟩
    | cons x l =>
      rw [hw] at hb
      dsimp only at hb
      by_cases hr : S.r = []
      · rw [if_pos hr] at hb
        cases hb
        refine (rhand_write x l h hd hw hr h2).mono ?_
        rintro e w' ⟨a, m, rfl, hO⟩
        exact ⟨a, m, rfl, hO⟩
      · rw [if_neg hr] at hb
        cases hb
        refine (rhand_busy h hd (by rw [hw]; simp) hr (by omega) h2).mono ?_
        rintro e w' ⟨rfl, rfl⟩
        exact ⟨_, _, rfl, OutM.none h.stay⟩
  · rw [if_pos hd] at hb
    cases hb
    refine (rhand_held h hd).mono ?_
    rintro e w' ⟨rfl, rfl⟩
    exact ⟨_, _, rfl, OutM.none h.stay⟩
end
end Go.Proofs.Ytegpoocmhamlpaa
