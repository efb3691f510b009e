/- The walks of package sema that turn it. -/
import Derived.Test.YtegpoocmhamlpaaSmA
namespace Go.Proofs.Ytegpoocmhamlpaa
open Go Go.RowKit

theorem one_srcP (w : World) (t n : Int) : Src (w.alloc (.cells #[.int .i64 t, .int .i64 n] 71)) (.slice (some ⟨w.heap.size, 0, none⟩) 1 1) 1 2 (flat2 [(t, n)]) := by
  refine .inr ⟨_, _, rfl, rfl, fun j u hu => ?_, flat2_one _⟩
  have hadd : (⟨w.heap.size, 0, none⟩ : Addr).add j = ⟨w.heap.size, j, none⟩ := by unfold Addr.add; split <;> simp_all
  rw [hadd, World.cell?_alloc_new]
  match j, hu with
  | 0, hu => exact hu
  | 1, hu => exact hu

theorem wp_append_pairs (w : World) {o : Oper} {a : Act} {K : Act → World → Prop} {Q : Exit → Act → World → Prop} (s x : Operand)
    (ho : o.op = .call { callee := .builtin .append, args := #[s, x], argTypes := #[67, 67] })
    (v : Value) (l : List (Int × Int)) (hs : a.eval s = v) (hown : OwnP w v l) (sv : Value) (p : Int × Int) (hx : a.eval x = sv) (hsrc : Src w sv 1 2 (flat2 [p])) (hn : l.length + 1 ≤ 1000000)
    (h : ∀ v' w', OwnP w' v' (l ++ [p]) → (∀ k, v'.ownBlock = some k → v.ownBlock = some k ∨ w.heap.size ≤ k) → Keep (fun k => v.ownBlock = some k) w w' → K (a.put o.dst v') w') : o.wp Try.prog a w K Q := by
  obtain ⟨i0, hi, hz0, hz1, hz2⟩ := info_parts Try.infoP
  refine wp_append_src w s x 67 ho 0 71 i0 (.agg #[.int .i64 0, .int .i64 0]) 2 16 Try.underlying67 hi hz0 hz1 hz2 rfl (by decide) v l.length (flat2 l) hs hown sv 1 _ hx hsrc (by unfold maxLen; omega) (by omega) (Nat.zero_le _) ?_
  intro v1 w1 o1 g1 f1
  refine h v1 w1 ?_ f1 (Keep.of_grown g1)
  unfold OwnP
  rw [List.length_append, flat2_append]
  exact o1

/-- How it may be. -/
structure SGood (S : SS) : Prop where
  s1 : 1 ≤ S.size
  s16 : S.size ≤ 16
  f0 : 0 ≤ S.free
  f1 : S.free ≤ S.size
  l : ∀ p ∈ S.l, 1 ≤ p.1 ∧ 1 ≤ p.2 ∧ p.2 ≤ S.size

section
variable {w0 w : World} {G : Nat → Prop} {b : Nat} {S : SS}

/-- What a Try answers, and what is there then. -/
def mtr (S : SS) (t n : Int) : Int × SS :=
  if t < 1 ∨ n < 1 ∨ n > S.size then (1, S) else if t ∈ S.who then (11, S) else if S.l ≠ [] ∨ n > S.free then (12, S) else (0, { S with free := S.free - n })

set_option maxHeartbeats 1000000 in
theorem mtry_any (t n : Int) (h : MNew 69 w0 w G b (scs S)) (hg : SGood S) {e : Int} {S' : SS} (hb : mtr S t n = (e, S')) :
    Calls Try.prog 22 #[.pointer (some ⟨b, 0, none⟩), .int .i64 t, .int .i64 n] w fun en w' => en = .returned (.int .i64 e) ∧ StepM 69 w0 G w w' b (scs S') := by
  have HH := hid h
  obtain ⟨hGb, vs, vL, hM, hvs, v2, oL, c0, c1, c2⟩ := h.sm
  have hf1 := hM.fro 1
  have HM := hid hM
  have g1 := hg.s16
  have g2 := hg.f0
  have g3 := hg.f1
  clear h hM hvs v2 hg
  unfold mtr at hb
  by_cases ht : t < 1
  · rw [if_pos (.inl ht)] at hb
    cases hb
    go_enter Try.func22, Try.ntmps22
    go_wp2
    go_ret
    exact ⟨rfl, HH.out.stay⟩
  by_cases hn : n < 1
  · rw [if_pos (.inr (.inl hn))] at hb
    cases hb
    go_enter Try.func22, Try.ntmps22
    go_wp2
    go_ret
    exact ⟨rfl, HH.out.stay⟩
  by_cases hz : n > S.size
  · rw [if_pos (.inr (.inr hz))] at hb
    cases hb
    have hz' : S.size < n := hz
    go_enter Try.func22, Try.ntmps22
    go_wp2
    go_ret
    exact ⟨rfl, HH.out.stay⟩
  rw [if_neg (by omega)] at hb
  have hz' : ¬ S.size < n := by omega
  by_cases hm : t ∈ S.who
  · rw [if_pos hm] at hb
    cases hb
    have I := hid (idx_in hm)
    clear hm
    generalize hi : S.who.idxOf t = i at I
    have hi0 : (0 : Int) ≤ (i : Int) := by omega
    clear hi
    go_enter Try.func22, Try.ntmps22
    go_wp2_with fail
    refine (mfind_any t HH.out).mono ?_
    rintro _ w1 ⟨rfl, K1⟩
    rw [I.out]
    have st := hid (StepM.same HH.out K1)
    clear K1
    go_wp2
    go_ret
    exact ⟨rfl, st.out⟩
  rw [if_neg hm] at hb
  have I := hid (idx_out hm)
  clear hm
  have go1 : ∀ {P : Prop}, P → P := fun h => h
  by_cases hl : S.l = []
  · have hl0 : S.l.length = 0 := by rw [hl]; rfl
    obtain ⟨a, c, hv⟩ := oL.form
    rw [hl0] at hv
    have HV := hid hv
    rw [hv] at c2
    by_cases hf : n > S.free
    · rw [if_pos (.inr hf)] at hb
      cases hb
      have hf' : S.free < n := hf
      clear oL hv hl hl0
      go_enter Try.func22, Try.ntmps22
      go_wp2_with fail
      refine (mfind_any t HH.out).mono ?_
      rintro _ w1 ⟨rfl, K1⟩
      rw [I.out]
      have st := hid (StepM.same HH.out K1)
      have d1 := (K1.cell (p := ⟨b, 1, none⟩) (HM.out.lt) (fun h => h)).trans c1
      have d2 := (K1.cell (p := ⟨b, 2, none⟩) (HM.out.lt) (fun h => h)).trans c2
      clear K1
      go_wp2
      go_ret
      exact ⟨rfl, st.out⟩
    · rw [if_neg (by simp [hl]; omega)] at hb
      cases hb
      have hf' : ¬ S.free < n := by omega
      clear oL hv hl hl0
      go_enter Try.func22, Try.ntmps22
      go_wp2_with fail
      refine (mfind_any t HH.out).mono ?_
      rintro _ w1 ⟨rfl, K1⟩
      rw [I.out]
      have d1 := (K1.cell (p := ⟨b, 1, none⟩) (HM.out.lt) (fun h => h)).trans c1
      have d2 := (K1.cell (p := ⟨b, 2, none⟩) (HM.out.lt) (fun h => h)).trans c2
      have df := (K1.frozen (p := ⟨b, 1, none⟩) (HM.out.lt) (fun h => h)).trans hf1
      have st1 : StepM 69 w0 G w1 (w1.setCell ⟨b, 1, none⟩ (.int .i64 (S.free - n))) b (scs { S with free := S.free - n }) := (HH.out.quiet K1).scal (i := 1) (by simp [scs]) _ rfl
      have st : StepM 69 w0 G w (w1.setCell ⟨b, 1, none⟩ (.int .i64 (S.free - n))) b (scs { S with free := S.free - n }) := StepM.trans ⟨HH.out.quiet K1, fun _ hk => .inl hk, K1.mono fun _ _ h => h.elim⟩ st1
      have st := hid st
      clear K1 st1
      go_wp2
      go_ret
      exact ⟨rfl, st.out⟩
  · rw [if_pos (.inl hl)] at hb
    cases hb
    have hlp := List.length_pos_iff.2 hl
    obtain ⟨a, c, hv⟩ := oL.form
    obtain ⟨m, hm⟩ : ∃ m : Nat, S.l.length = m := ⟨_, rfl⟩
    rw [hm] at hv hlp
    rw [hv] at c2
    have hl2 : (0 : Int) < (m : Int) := by omega
    clear oL hv hl hm
    go_enter Try.func22, Try.ntmps22
    go_wp2_with fail
    refine (mfind_any t HH.out).mono ?_
    rintro _ w1 ⟨rfl, K1⟩
    rw [I.out]
    have st := hid (StepM.same HH.out K1)
    have d1 := (K1.cell (p := ⟨b, 1, none⟩) (HM.out.lt) (fun h => h)).trans c1
    have d2 := (K1.cell (p := ⟨b, 2, none⟩) (HM.out.lt) (fun h => h)).trans c2
    clear K1
    go_wp2
    go_ret
    exact ⟨rfl, st.out⟩

/-- What an Acquire answers, and what is there then. -/
def maq (S : SS) (t n : Int) : Int × SS := if (mtr S t n).1 = 12 then (14, { S with l := S.l ++ [(t, n)] }) else mtr S t n

theorem mtr_busy {t n : Int} {S' : SS} (h : mtr S t n = (12, S')) : S' = S := by
  unfold mtr at h
  split at h
  · cases h
  split at h
  · cases h
  split at h
  · exact (congrArg Prod.snd h).symm
  · cases h

set_option maxHeartbeats 1000000 in
theorem macq_any (t n : Int) (h : MNew 69 w0 w G b (scs S)) (hg : SGood S) (hl : S.l.length ≤ 1000) {e : Int} {S' : SS} (hb : maq S t n = (e, S')) :
    Calls Try.prog 14 #[.pointer (some ⟨b, 0, none⟩), .int .i64 t, .int .i64 n] w fun en w' => en = .returned (.int .i64 e) ∧ StepM 69 w0 G w w' b (scs S') := by
  obtain ⟨e1, S1, htr⟩ : ∃ e1 S1, mtr S t n = (e1, S1) := ⟨_, _, rfl⟩
  unfold maq at hb
  rw [htr] at hb
  dsimp only at hb
  by_cases he : e1 = 12
  · rw [if_pos he] at hb
    subst he
    have e2 := mtr_busy htr
    subst e2
    cases hb
    have HT := hid htr
    go_enter Try.func14, Try.ntmps14
    go_wp2_with fail
    refine (mtry_any t n h hg HT.out).mono ?_
    rintro _ w2 ⟨rfl, G2, N2, J2, K2⟩
    have HH2 := hid N2
    have JK := hid (And.intro J2 K2)
    obtain ⟨hGb, vs, vL, hM, hvs, v2, oL, c0, c1, c2⟩ := N2.sm
    have HM := hid hM
    have GV := hid hvs
    have V2 := hid v2
    have OL := hid oL
    clear h hM hvs v2 oL htr J2 K2 N2
    have K0 : Keep (fun _ => False) w2 (w2.alloc (.cells #[.int .i64 t, .int .i64 n] 71)) := (Keep.refl _ _).alloc _
    have hown : OwnP _ _ _ := owns_keep OL.out K0 (fun _ _ h => h)
    have hsrc := one_srcP w2 t n
    go_wp2_with (at_builtin; refine wpList_plain rfl (fun K hK => wp_append_pairs _ (.tmp 19) (.tmp 23) rfl vL S1.l rfl hown _ (t, n) rfl hsrc (by omega) ?_))
    intro y1 w1 o1 f1 k1
    have k2 : Keep (fun k => vL.ownBlock = some k) w2 w1 := (K0.mono fun _ _ h => h.elim).trans k1
    have st := HH2.out.storedP HM.out hGb GV.out V2.out k2 o1 (fun k hk => (f1 k hk).elim .inl (fun h => .inr (by omega)))
    obtain ⟨h1, hf⟩ := HM.out.sp V2.out k2
    have ST := hid st
    obtain ⟨a1, n1, hv1⟩ := o1.form
    generalize (S1.l ++ [(t, n)]).length = m1 at hv1
    subst hv1
    refine hK _ _ ?_
    clear hK K f1 k1 k2 o1 st hown hsrc K0
    go_wp2
    go_ret
    exact ⟨rfl, StepM.trans ⟨HH2.out, JK.out.1, JK.out.2⟩ ST.out⟩
  · rw [if_neg he] at hb
    cases hb
    have HT := hid htr
    have he1 : (e != 12) = true := by simp [he]
    clear htr he
    go_enter Try.func14, Try.ntmps14
    go_wp2_with fail
    refine (mtry_any t n h hg HT.out).mono ?_
    rintro _ w2 ⟨rfl, st⟩
    have ST := hid st
    clear st
    go_wp2
    go_ret
    exact ⟨rfl, ST.out⟩
end
end Go.Proofs.Ytegpoocmhamlpaa
