/- The walks of the reference's RW: Want. -/
import Derived.Test.YtegpoocmhamlpaaRwF
namespace Go.Proofs.Ytegpoocmhamlpaa
open Go Go.RowKit

section
variable {w0 w w' : World} {G : Nat → Prop} {b : Nat} {E : List On}

/-- May a task have it at once? -/
def fre (E : List On) (wr : Bool) : Bool := decide ((tsk E true true).headD 0 = 0) && decide ((tsk E (!wr) wr).length = 0)
/-- What a Want answers, and what is there then. -/
def wnt (E : List On) (t : Int) (wr wait : Bool) : Int × List On :=
  if t < 1 then (1, E) else if t ∈ E.map (·.1) then (11, E) else if fre E wr = false ∧ wait = false then (12, E) else (if fre E wr then 0 else 14, E ++ [(t, wr, fre E wr)])

set_option maxRecDepth 10000 in
set_option maxHeartbeats 2000000 in
theorem twant_true (t : Int) (wait : Bool) (h : MNew 58 w0 w G b (tcs E)) (hn : E.length ≤ 1000) (h1 : ¬ t < 1) (hm : t ∉ E.map (·.1)) {e : Int} {E' : List On}
    (hb : (if fre E true = false ∧ wait = false then (12, E) else (if fre E true then 0 else 14, E ++ [(t, true, fre E true)])) = ((e, E') : Int × List On)) :
    Calls Try.prog 51 #[.pointer (some ⟨b, 0, none⟩), .int .i64 t, .bool true, .bool wait] w fun en w' => en = .returned (.int .i64 e) ∧ StepM 58 w0 G w w' b (tcs E') := by
  have HH := hid h
  have IX := hid (idx_out hm)
  obtain ⟨hd, hhd⟩ : ∃ x, (tsk E true true).headD 0 = x := ⟨_, rfl⟩
  have HD := hid hhd
  clear hm h
  by_cases hz : hd = 0
  · subst hz
    by_cases hl : (tsk E false true).length = 0
    · have hf : fre E true = true := by unfold fre; rw [hhd]; show (true && decide ((tsk E false true).length = 0)) = true; rw [decide_eq_true hl]; rfl
      rw [hf, if_neg (by simp)] at hb
      cases hb
      have HL := hid hl
      clear hf hl hhd
      go_enter Try.func51, Try.ntmps51
      go_wp2_with fail
      refine (tat_any t HH.out hn).mono ?_
      rintro _ _ ⟨rfl, rfl⟩
      rw [IX.out]
      go_wp2_with fail
      refine (twriter_any HH.out hn).mono ?_
      rintro _ W1 ⟨rfl, KW1⟩
      rw [HD.out]
      have KX := hid KW1
      clear KW1
      go_wp2_with fail
      refine (ttasks_any false true (HH.out.quiet KX.out) hn).mono ?_
      rintro _ W2 ⟨a2, n2, rfl, -, KW2, -⟩
      have KX := hid (KX.out.trans KW2)
      clear KW2
      rw [HL.out]
      have N2 := HH.out.quiet KX.out
      obtain ⟨_, vs, v, hM, hvs, v0, oE, c0⟩ := N2.tk
      obtain ⟨hGb, _⟩ := N2.1
      have N2 := hid N2
      have M := hid hM
      have GV := hid hvs
      have V0 := hid v0
      have OE := hid oE
      obtain ⟨aE, cE, hvE⟩ := oE.form
      have HVE := hid hvE
      rw [hvE] at c0
      have lb := hM.lt
      clear hM hvs v0 oE hvE
      have kB : Keep (fun _ => False) W2 (W2.alloc (.cells #[] 92)) := (Keep.refl _ _).alloc _
      have hsrc := owns_src (OE.out.keep kB fun _ _ h => h) (flat3_one _)
      rw [HVE.out] at hsrc
      go_wp2_with (at_builtin; refine wpList_plain rfl (fun K hK => wp_append_ones _ (.tmp 41) (.tmp 45) rfl _ [] rfl (made_rowT W2) _ E.length E rfl hsrc (by simp; omega) ?_))
      intro u1 Y1 o1 f1 k1
      try rw [List.nil_append] at o1
      have K1 : Keep (fun _ => False) W2 Y1 := kB.then k1 (fun k hk => .inr (by have := Option.some.inj hk; dsimp only at this; omega))
      have F1 : ∀ k, u1.ownBlock = some k → W2.heap.size ≤ k := fun k hk => (f1 k hk).elim (fun h => by have := Option.some.inj h; dsimp only at this; omega) (fun h => by have := kB.size; omega)
      have d0 := (K1.cell (p := ⟨b, 0, none⟩) lb (fun h => h)).trans c0
      have k2 : Keep (fun _ => False) Y1 (Y1.alloc (.cells #[.int .i64 t, .bool true, .bool true] 92)) := (Keep.refl _ _).alloc _
      have o1' := o1.keep k2 (fun _ _ h => h)
      have hsrc2 := one_srcT Y1 (t, true, true)
      have K2 := hid (K1.trans k2)
      have F1' := hid F1
      have S1 := hid K1.size
      refine hK _ _ ?_
      clear hK K f1 k1 hsrc kB o1 F1 K1 c0
      go_wp2_with (at_builtin; refine wpList_plain rfl (fun K hK => wp_append_ones _ (.tmp 46) (.tmp 51) rfl _ E rfl o1' _ 1 [(t, true, true)] rfl hsrc2 (by omega) ?_))
      intro u2 Y2 o2 f2 k3
      have K3 : Keep (fun _ => False) W2 Y2 := K2.out.then k3 (fun k hk => .inr (F1'.out k hk))
      have F2 : ∀ k, u2.ownBlock = some k → W2.heap.size ≤ k := fun k hk => (f2 k hk).elim (fun h => F1'.out k h) (fun h => by have := S1.out; omega)
      obtain ⟨h2, hf⟩ := M.out.sp V0.out (K3.mono fun _ _ h => h.elim)
      have st := N2.out.storedT M.out hGb GV.out V0.out (K3.mono fun _ _ h => h.elim) o2 (fun k hk => .inr (F2 k hk))
      have ST : StepM 58 w0 G w (Y2.setCell ⟨b, 0, none⟩ u2) b (tcs (E ++ [(t, true, true)])) := StepM.trans ⟨N2.out, fun _ hk => .inl hk, KX.out.mono fun _ _ h => h.elim⟩ st
      have ST := hid ST
      obtain ⟨a2, n2', hv2⟩ := o2.form
      generalize (E ++ [(t, true, true)]).length = m2 at hv2
      subst hv2
      refine hK _ _ ?_
      clear hK K o2 f2 k3 K3 F2 st hsrc2 o1' d0 k2
      go_wp2
      go_ret
      exact ⟨rfl, ST.out⟩
    · have hf : fre E true = false := by unfold fre; rw [hhd]; show (true && decide ((tsk E false true).length = 0)) = false; rw [decide_eq_false hl]; rfl
      rw [hf] at hb
      obtain ⟨m, hm⟩ : ∃ m : Nat, (tsk E false true).length = m := ⟨_, rfl⟩
      have HL := hid hm
      rw [hm] at hl
      have hl0 : ((m : Int) == 0) = false := by simp; omega
      clear hf hm hhd
      cases wait
      · rw [if_pos ⟨rfl, rfl⟩] at hb
        cases hb
        go_enter Try.func51, Try.ntmps51
        go_wp2_with fail
        refine (tat_any t HH.out hn).mono ?_
        rintro _ _ ⟨rfl, rfl⟩
        rw [IX.out]
        go_wp2_with fail
        refine (twriter_any HH.out hn).mono ?_
        rintro _ W1 ⟨rfl, KW1⟩
        rw [HD.out]
        have KX := hid KW1
        clear KW1
        go_wp2_with fail
        refine (ttasks_any false true (HH.out.quiet KX.out) hn).mono ?_
        rintro _ W2 ⟨a2, n2, rfl, -, KW2, -⟩
        have KX := hid (KX.out.trans KW2)
        clear KW2
        rw [HL.out]
        have ST := hid (StepM.same HH.out KX.out)
        go_wp2
        go_ret
        exact ⟨rfl, ST.out⟩
      · rw [if_neg (by simp)] at hb
        cases hb
        go_enter Try.func51, Try.ntmps51
        go_wp2_with fail
        refine (tat_any t HH.out hn).mono ?_
        rintro _ _ ⟨rfl, rfl⟩
        rw [IX.out]
        go_wp2_with fail
        refine (twriter_any HH.out hn).mono ?_
        rintro _ W1 ⟨rfl, KW1⟩
        rw [HD.out]
        have KX := hid KW1
        clear KW1
        go_wp2_with fail
        refine (ttasks_any false true (HH.out.quiet KX.out) hn).mono ?_
        rintro _ W2 ⟨a2, n2, rfl, -, KW2, -⟩
        have KX := hid (KX.out.trans KW2)
        clear KW2
        rw [HL.out]
        have N2 := HH.out.quiet KX.out
        obtain ⟨_, vs, v, hM, hvs, v0, oE, c0⟩ := N2.tk
        obtain ⟨hGb, _⟩ := N2.1
        have N2 := hid N2
        have M := hid hM
        have GV := hid hvs
        have V0 := hid v0
        have OE := hid oE
        obtain ⟨aE, cE, hvE⟩ := oE.form
        have HVE := hid hvE
        rw [hvE] at c0
        have lb := hM.lt
        clear hM hvs v0 oE hvE
        have kB : Keep (fun _ => False) W2 (W2.alloc (.cells #[] 92)) := (Keep.refl _ _).alloc _
        have hsrc := owns_src (OE.out.keep kB fun _ _ h => h) (flat3_one _)
        rw [HVE.out] at hsrc
        go_wp2_with (at_builtin; refine wpList_plain rfl (fun K hK => wp_append_ones _ (.tmp 41) (.tmp 45) rfl _ [] rfl (made_rowT W2) _ E.length E rfl hsrc (by simp; omega) ?_))
        intro u1 Y1 o1 f1 k1
        try rw [List.nil_append] at o1
        have K1 : Keep (fun _ => False) W2 Y1 := kB.then k1 (fun k hk => .inr (by have := Option.some.inj hk; dsimp only at this; omega))
        have F1 : ∀ k, u1.ownBlock = some k → W2.heap.size ≤ k := fun k hk => (f1 k hk).elim (fun h => by have := Option.some.inj h; dsimp only at this; omega) (fun h => by have := kB.size; omega)
        have d0 := (K1.cell (p := ⟨b, 0, none⟩) lb (fun h => h)).trans c0
        have k2 : Keep (fun _ => False) Y1 (Y1.alloc (.cells #[.int .i64 t, .bool true, .bool false] 92)) := (Keep.refl _ _).alloc _
        have o1' := o1.keep k2 (fun _ _ h => h)
        have hsrc2 := one_srcT Y1 (t, true, false)
        have K2 := hid (K1.trans k2)
        have F1' := hid F1
        have S1 := hid K1.size
        refine hK _ _ ?_
        clear hK K f1 k1 hsrc kB o1 F1 K1 c0
        go_wp2_with (at_builtin; refine wpList_plain rfl (fun K hK => wp_append_ones _ (.tmp 46) (.tmp 51) rfl _ E rfl o1' _ 1 [(t, true, false)] rfl hsrc2 (by omega) ?_))
        intro u2 Y2 o2 f2 k3
        have K3 : Keep (fun _ => False) W2 Y2 := K2.out.then k3 (fun k hk => .inr (F1'.out k hk))
        have F2 : ∀ k, u2.ownBlock = some k → W2.heap.size ≤ k := fun k hk => (f2 k hk).elim (fun h => F1'.out k h) (fun h => by have := S1.out; omega)
        obtain ⟨h2, hf⟩ := M.out.sp V0.out (K3.mono fun _ _ h => h.elim)
        have st := N2.out.storedT M.out hGb GV.out V0.out (K3.mono fun _ _ h => h.elim) o2 (fun k hk => .inr (F2 k hk))
        have ST : StepM 58 w0 G w (Y2.setCell ⟨b, 0, none⟩ u2) b (tcs (E ++ [(t, true, false)])) := StepM.trans ⟨N2.out, fun _ hk => .inl hk, KX.out.mono fun _ _ h => h.elim⟩ st
        have ST := hid ST
        obtain ⟨a2, n2', hv2⟩ := o2.form
        generalize (E ++ [(t, true, false)]).length = m2 at hv2
        subst hv2
        refine hK _ _ ?_
        clear hK K o2 f2 k3 K3 F2 st hsrc2 o1' d0 k2
        go_wp2
        go_ret
        exact ⟨rfl, ST.out⟩
  · have hf : fre E true = false := by unfold fre; rw [hhd, decide_eq_false hz]; rfl
    rw [hf] at hb
    have hz0 : (hd == 0) = false := by simp [hz]
    clear hf hz hhd
    cases wait
    · rw [if_pos ⟨rfl, rfl⟩] at hb
      cases hb
      go_enter Try.func51, Try.ntmps51
      go_wp2_with fail
      refine (tat_any t HH.out hn).mono ?_
      rintro _ _ ⟨rfl, rfl⟩
      rw [IX.out]
      go_wp2_with fail
      refine (twriter_any HH.out hn).mono ?_
      rintro _ W1 ⟨rfl, KW1⟩
      rw [HD.out]
      have KX := hid KW1
      clear KW1
      have ST := hid (StepM.same HH.out KX.out)
      go_wp2
      go_ret
      exact ⟨rfl, ST.out⟩
    · rw [if_neg (by simp)] at hb
      cases hb
      go_enter Try.func51, Try.ntmps51
      go_wp2_with fail
      refine (tat_any t HH.out hn).mono ?_
      rintro _ _ ⟨rfl, rfl⟩
      rw [IX.out]
      go_wp2_with fail
      refine (twriter_any HH.out hn).mono ?_
      rintro _ W1 ⟨rfl, KW1⟩
      rw [HD.out]
      have KX := hid KW1
      clear KW1
      have N2 := HH.out.quiet KX.out
      obtain ⟨_, vs, v, hM, hvs, v0, oE, c0⟩ := N2.tk
      obtain ⟨hGb, _⟩ := N2.1
      have N2 := hid N2
      have M := hid hM
      have GV := hid hvs
      have V0 := hid v0
      have OE := hid oE
      obtain ⟨aE, cE, hvE⟩ := oE.form
      have HVE := hid hvE
      rw [hvE] at c0
      have lb := hM.lt
      clear hM hvs v0 oE hvE
      have kB : Keep (fun _ => False) W1 (W1.alloc (.cells #[] 92)) := (Keep.refl _ _).alloc _
      have hsrc := owns_src (OE.out.keep kB fun _ _ h => h) (flat3_one _)
      rw [HVE.out] at hsrc
      go_wp2_with (at_builtin; refine wpList_plain rfl (fun K hK => wp_append_ones _ (.tmp 41) (.tmp 45) rfl _ [] rfl (made_rowT W1) _ E.length E rfl hsrc (by simp; omega) ?_))
      intro u1 Y1 o1 f1 k1
      try rw [List.nil_append] at o1
      have K1 : Keep (fun _ => False) W1 Y1 := kB.then k1 (fun k hk => .inr (by have := Option.some.inj hk; dsimp only at this; omega))
      have F1 : ∀ k, u1.ownBlock = some k → W1.heap.size ≤ k := fun k hk => (f1 k hk).elim (fun h => by have := Option.some.inj h; dsimp only at this; omega) (fun h => by have := kB.size; omega)
      have d0 := (K1.cell (p := ⟨b, 0, none⟩) lb (fun h => h)).trans c0
      have k2 : Keep (fun _ => False) Y1 (Y1.alloc (.cells #[.int .i64 t, .bool true, .bool false] 92)) := (Keep.refl _ _).alloc _
      have o1' := o1.keep k2 (fun _ _ h => h)
      have hsrc2 := one_srcT Y1 (t, true, false)
      have K2 := hid (K1.trans k2)
      have F1' := hid F1
      have S1 := hid K1.size
      refine hK _ _ ?_
      clear hK K f1 k1 hsrc kB o1 F1 K1 c0
      go_wp2_with (at_builtin; refine wpList_plain rfl (fun K hK => wp_append_ones _ (.tmp 46) (.tmp 51) rfl _ E rfl o1' _ 1 [(t, true, false)] rfl hsrc2 (by omega) ?_))
      intro u2 Y2 o2 f2 k3
      have K3 : Keep (fun _ => False) W1 Y2 := K2.out.then k3 (fun k hk => .inr (F1'.out k hk))
      have F2 : ∀ k, u2.ownBlock = some k → W1.heap.size ≤ k := fun k hk => (f2 k hk).elim (fun h => F1'.out k h) (fun h => by have := S1.out; omega)
      obtain ⟨h2, hf⟩ := M.out.sp V0.out (K3.mono fun _ _ h => h.elim)
      have st := N2.out.storedT M.out hGb GV.out V0.out (K3.mono fun _ _ h => h.elim) o2 (fun k hk => .inr (F2 k hk))
      have ST : StepM 58 w0 G w (Y2.setCell ⟨b, 0, none⟩ u2) b (tcs (E ++ [(t, true, false)])) := StepM.trans ⟨N2.out, fun _ hk => .inl hk, KX.out.mono fun _ _ h => h.elim⟩ st
      have ST := hid ST
      obtain ⟨a2, n2', hv2⟩ := o2.form
      generalize (E ++ [(t, true, false)]).length = m2 at hv2
      subst hv2
      refine hK _ _ ?_
      clear hK K o2 f2 k3 K3 F2 st hsrc2 o1' d0 k2
      go_wp2
      go_ret
      exact ⟨rfl, ST.out⟩

set_option maxRecDepth 10000 in
set_option maxHeartbeats 2000000 in
theorem twant_false (t : Int) (wait : Bool) (h : MNew 58 w0 w G b (tcs E)) (hn : E.length ≤ 1000) (h1 : ¬ t < 1) (hm : t ∉ E.map (·.1)) {e : Int} {E' : List On}
    (hb : (if fre E false = false ∧ wait = false then (12, E) else (if fre E false then 0 else 14, E ++ [(t, false, fre E false)])) = ((e, E') : Int × List On)) :
    Calls Try.prog 51 #[.pointer (some ⟨b, 0, none⟩), .int .i64 t, .bool false, .bool wait] w fun en w' => en = .returned (.int .i64 e) ∧ StepM 58 w0 G w w' b (tcs E') := by
  have HH := hid h
  have IX := hid (idx_out hm)
  obtain ⟨hd, hhd⟩ : ∃ x, (tsk E true true).headD 0 = x := ⟨_, rfl⟩
  have HD := hid hhd
  clear hm h
  by_cases hz : hd = 0
  · subst hz
    by_cases hl : (tsk E true false).length = 0
    · have hf : fre E false = true := by unfold fre; rw [hhd]; show (true && decide ((tsk E true false).length = 0)) = true; rw [decide_eq_true hl]; rfl
      rw [hf, if_neg (by simp)] at hb
      cases hb
      have HL := hid hl
      clear hf hl hhd
      go_enter Try.func51, Try.ntmps51
      go_wp2_with fail
      refine (tat_any t HH.out hn).mono ?_
      rintro _ _ ⟨rfl, rfl⟩
      rw [IX.out]
      go_wp2_with fail
      refine (twriter_any HH.out hn).mono ?_
      rintro _ W1 ⟨rfl, KW1⟩
      rw [HD.out]
      have KX := hid KW1
      clear KW1
      go_wp2_with fail
      refine (ttasks_any true false (HH.out.quiet KX.out) hn).mono ?_
      rintro _ W2 ⟨a2, n2, rfl, -, KW2, -⟩
      have KX := hid (KX.out.trans KW2)
      clear KW2
      rw [HL.out]
      have N2 := HH.out.quiet KX.out
      obtain ⟨_, vs, v, hM, hvs, v0, oE, c0⟩ := N2.tk
      obtain ⟨hGb, _⟩ := N2.1
      have N2 := hid N2
      have M := hid hM
      have GV := hid hvs
      have V0 := hid v0
      have OE := hid oE
      obtain ⟨aE, cE, hvE⟩ := oE.form
      have HVE := hid hvE
      rw [hvE] at c0
      have lb := hM.lt
      clear hM hvs v0 oE hvE
      have kB : Keep (fun _ => False) W2 (W2.alloc (.cells #[] 92)) := (Keep.refl _ _).alloc _
      have hsrc := owns_src (OE.out.keep kB fun _ _ h => h) (flat3_one _)
      rw [HVE.out] at hsrc
      go_wp2_with (at_builtin; refine wpList_plain rfl (fun K hK => wp_append_ones _ (.tmp 41) (.tmp 45) rfl _ [] rfl (made_rowT W2) _ E.length E rfl hsrc (by simp; omega) ?_))
      intro u1 Y1 o1 f1 k1
      try rw [List.nil_append] at o1
      have K1 : Keep (fun _ => False) W2 Y1 := kB.then k1 (fun k hk => .inr (by have := Option.some.inj hk; dsimp only at this; omega))
      have F1 : ∀ k, u1.ownBlock = some k → W2.heap.size ≤ k := fun k hk => (f1 k hk).elim (fun h => by have := Option.some.inj h; dsimp only at this; omega) (fun h => by have := kB.size; omega)
      have d0 := (K1.cell (p := ⟨b, 0, none⟩) lb (fun h => h)).trans c0
      have k2 : Keep (fun _ => False) Y1 (Y1.alloc (.cells #[.int .i64 t, .bool false, .bool true] 92)) := (Keep.refl _ _).alloc _
      have o1' := o1.keep k2 (fun _ _ h => h)
      have hsrc2 := one_srcT Y1 (t, false, true)
      have K2 := hid (K1.trans k2)
      have F1' := hid F1
      have S1 := hid K1.size
      refine hK _ _ ?_
      clear hK K f1 k1 hsrc kB o1 F1 K1 c0
      go_wp2_with (at_builtin; refine wpList_plain rfl (fun K hK => wp_append_ones _ (.tmp 46) (.tmp 51) rfl _ E rfl o1' _ 1 [(t, false, true)] rfl hsrc2 (by omega) ?_))
      intro u2 Y2 o2 f2 k3
      have K3 : Keep (fun _ => False) W2 Y2 := K2.out.then k3 (fun k hk => .inr (F1'.out k hk))
      have F2 : ∀ k, u2.ownBlock = some k → W2.heap.size ≤ k := fun k hk => (f2 k hk).elim (fun h => F1'.out k h) (fun h => by have := S1.out; omega)
      obtain ⟨h2, hf⟩ := M.out.sp V0.out (K3.mono fun _ _ h => h.elim)
      have st := N2.out.storedT M.out hGb GV.out V0.out (K3.mono fun _ _ h => h.elim) o2 (fun k hk => .inr (F2 k hk))
      have ST : StepM 58 w0 G w (Y2.setCell ⟨b, 0, none⟩ u2) b (tcs (E ++ [(t, false, true)])) := StepM.trans ⟨N2.out, fun _ hk => .inl hk, KX.out.mono fun _ _ h => h.elim⟩ st
      have ST := hid ST
      obtain ⟨a2, n2', hv2⟩ := o2.form
      generalize (E ++ [(t, false, true)]).length = m2 at hv2
      subst hv2
      refine hK _ _ ?_
      clear hK K o2 f2 k3 K3 F2 st hsrc2 o1' d0 k2
      go_wp2
      go_ret
      exact ⟨rfl, ST.out⟩
    · have hf : fre E false = false := by unfold fre; rw [hhd]; show (true && decide ((tsk E true false).length = 0)) = false; rw [decide_eq_false hl]; rfl
      rw [hf] at hb
      obtain ⟨m, hm⟩ : ∃ m : Nat, (tsk E true false).length = m := ⟨_, rfl⟩
      have HL := hid hm
      rw [hm] at hl
      have hl0 : ((m : Int) == 0) = false := by simp; omega
      clear hf hm hhd
      cases wait
      · rw [if_pos ⟨rfl, rfl⟩] at hb
        cases hb
        go_enter Try.func51, Try.ntmps51
        go_wp2_with fail
        refine (tat_any t HH.out hn).mono ?_
        rintro _ _ ⟨rfl, rfl⟩
        rw [IX.out]
        go_wp2_with fail
        refine (twriter_any HH.out hn).mono ?_
        rintro _ W1 ⟨rfl, KW1⟩
        rw [HD.out]
        have KX := hid KW1
        clear KW1
        go_wp2_with fail
        refine (ttasks_any true false (HH.out.quiet KX.out) hn).mono ?_
        rintro _ W2 ⟨a2, n2, rfl, -, KW2, -⟩
        have KX := hid (KX.out.trans KW2)
        clear KW2
        rw [HL.out]
        have ST := hid (StepM.same HH.out KX.out)
        go_wp2
        go_ret
        exact ⟨rfl, ST.out⟩
      · rw [if_neg (by simp)] at hb
        cases hb
        go_enter Try.func51, Try.ntmps51
        go_wp2_with fail
        refine (tat_any t HH.out hn).mono ?_
        rintro _ _ ⟨rfl, rfl⟩
        rw [IX.out]
        go_wp2_with fail
        refine (twriter_any HH.out hn).mono ?_
        rintro _ W1 ⟨rfl, KW1⟩
        rw [HD.out]
        have KX := hid KW1
        clear KW1
        go_wp2_with fail
        refine (ttasks_any true false (HH.out.quiet KX.out) hn).mono ?_
        rintro _ W2 ⟨a2, n2, rfl, -, KW2, -⟩
        have KX := hid (KX.out.trans KW2)
        clear KW2
        rw [HL.out]
        have N2 := HH.out.quiet KX.out
        obtain ⟨_, vs, v, hM, hvs, v0, oE, c0⟩ := N2.tk
        obtain ⟨hGb, _⟩ := N2.1
        have N2 := hid N2
        have M := hid hM
        have GV := hid hvs
        have V0 := hid v0
        have OE := hid oE
        obtain ⟨aE, cE, hvE⟩ := oE.form
        have HVE := hid hvE
        rw [hvE] at c0
        have lb := hM.lt
        clear hM hvs v0 oE hvE
        have kB : Keep (fun _ => False) W2 (W2.alloc (.cells #[] 92)) := (Keep.refl _ _).alloc _
        have hsrc := owns_src (OE.out.keep kB fun _ _ h => h) (flat3_one _)
        rw [HVE.out] at hsrc
        go_wp2_with (at_builtin; refine wpList_plain rfl (fun K hK => wp_append_ones _ (.tmp 41) (.tmp 45) rfl _ [] rfl (made_rowT W2) _ E.length E rfl hsrc (by simp; omega) ?_))
        intro u1 Y1 o1 f1 k1
        try rw [List.nil_append] at o1
        have K1 : Keep (fun _ => False) W2 Y1 := kB.then k1 (fun k hk => .inr (by have := Option.some.inj hk; dsimp only at this; omega))
        have F1 : ∀ k, u1.ownBlock = some k → W2.heap.size ≤ k := fun k hk => (f1 k hk).elim (fun h => by have := Option.some.inj h; dsimp only at this; omega) (fun h => by have := kB.size; omega)
        have d0 := (K1.cell (p := ⟨b, 0, none⟩) lb (fun h => h)).trans c0
        have k2 : Keep (fun _ => False) Y1 (Y1.alloc (.cells #[.int .i64 t, .bool false, .bool false] 92)) := (Keep.refl _ _).alloc _
        have o1' := o1.keep k2 (fun _ _ h => h)
        have hsrc2 := one_srcT Y1 (t, false, false)
        have K2 := hid (K1.trans k2)
        have F1' := hid F1
        have S1 := hid K1.size
        refine hK _ _ ?_
        clear hK K f1 k1 hsrc kB o1 F1 K1 c0
        go_wp2_with (at_builtin; refine wpList_plain rfl (fun K hK => wp_append_ones _ (.tmp 46) (.tmp 51) rfl _ E rfl o1' _ 1 [(t, false, false)] rfl hsrc2 (by omega) ?_))
        intro u2 Y2 o2 f2 k3
        have K3 : Keep (fun _ => False) W2 Y2 := K2.out.then k3 (fun k hk => .inr (F1'.out k hk))
        have F2 : ∀ k, u2.ownBlock = some k → W2.heap.size ≤ k := fun k hk => (f2 k hk).elim (fun h => F1'.out k h) (fun h => by have := S1.out; omega)
        obtain ⟨h2, hf⟩ := M.out.sp V0.out (K3.mono fun _ _ h => h.elim)
        have st := N2.out.storedT M.out hGb GV.out V0.out (K3.mono fun _ _ h => h.elim) o2 (fun k hk => .inr (F2 k hk))
        have ST : StepM 58 w0 G w (Y2.setCell ⟨b, 0, none⟩ u2) b (tcs (E ++ [(t, false, false)])) := StepM.trans ⟨N2.out, fun _ hk => .inl hk, KX.out.mono fun _ _ h => h.elim⟩ st
        have ST := hid ST
        obtain ⟨a2, n2', hv2⟩ := o2.form
        generalize (E ++ [(t, false, false)]).length = m2 at hv2
        subst hv2
        refine hK _ _ ?_
        clear hK K o2 f2 k3 K3 F2 st hsrc2 o1' d0 k2
        go_wp2
        go_ret
        exact ⟨rfl, ST.out⟩
  · have hf : fre E false = false := by unfold fre; rw [hhd, decide_eq_false hz]; rfl
    rw [hf] at hb
    have hz0 : (hd == 0) = false := by simp [hz]
    clear hf hz hhd
    cases wait
    · rw [if_pos ⟨rfl, rfl⟩] at hb
      cases hb
      go_enter Try.func51, Try.ntmps51
      go_wp2_with fail
      refine (tat_any t HH.out hn).mono ?_
      rintro _ _ ⟨rfl, rfl⟩
      rw [IX.out]
      go_wp2_with fail
      refine (twriter_any HH.out hn).mono ?_
      rintro _ W1 ⟨rfl, KW1⟩
      rw [HD.out]
      have KX := hid KW1
      clear KW1
      have ST := hid (StepM.same HH.out KX.out)
      go_wp2
      go_ret
      exact ⟨rfl, ST.out⟩
    · rw [if_neg (by simp)] at hb
      cases hb
      go_enter Try.func51, Try.ntmps51
      go_wp2_with fail
      refine (tat_any t HH.out hn).mono ?_
      rintro _ _ ⟨rfl, rfl⟩
      rw [IX.out]
      go_wp2_with fail
      refine (twriter_any HH.out hn).mono ?_
      rintro _ W1 ⟨rfl, KW1⟩
      rw [HD.out]
      have KX := hid KW1
      clear KW1
      have N2 := HH.out.quiet KX.out
      obtain ⟨_, vs, v, hM, hvs, v0, oE, c0⟩ := N2.tk
      obtain ⟨hGb, _⟩ := N2.1
      have N2 := hid N2
      have M := hid hM
      have GV := hid hvs
      have V0 := hid v0
      have OE := hid oE
      obtain ⟨aE, cE, hvE⟩ := oE.form
      have HVE := hid hvE
      rw [hvE] at c0
      have lb := hM.lt
      clear hM hvs v0 oE hvE
      have kB : Keep (fun _ => False) W1 (W1.alloc (.cells #[] 92)) := (Keep.refl _ _).alloc _
      have hsrc := owns_src (OE.out.keep kB fun _ _ h => h) (flat3_one _)
      rw [HVE.out] at hsrc
      go_wp2_with (at_builtin; refine wpList_plain rfl (fun K hK => wp_append_ones _ (.tmp 41) (.tmp 45) rfl _ [] rfl (made_rowT W1) _ E.length E rfl hsrc (by simp; omega) ?_))
      intro u1 Y1 o1 f1 k1
      try rw [List.nil_append] at o1
      have K1 : Keep (fun _ => False) W1 Y1 := kB.then k1 (fun k hk => .inr (by have := Option.some.inj hk; dsimp only at this; omega))
      have F1 : ∀ k, u1.ownBlock = some k → W1.heap.size ≤ k := fun k hk => (f1 k hk).elim (fun h => by have := Option.some.inj h; dsimp only at this; omega) (fun h => by have := kB.size; omega)
      have d0 := (K1.cell (p := ⟨b, 0, none⟩) lb (fun h => h)).trans c0
      have k2 : Keep (fun _ => False) Y1 (Y1.alloc (.cells #[.int .i64 t, .bool false, .bool false] 92)) := (Keep.refl _ _).alloc _
      have o1' := o1.keep k2 (fun _ _ h => h)
      have hsrc2 := one_srcT Y1 (t, false, false)
      have K2 := hid (K1.trans k2)
      have F1' := hid F1
      have S1 := hid K1.size
      refine hK _ _ ?_
      clear hK K f1 k1 hsrc kB o1 F1 K1 c0
      go_wp2_with (at_builtin; refine wpList_plain rfl (fun K hK => wp_append_ones _ (.tmp 46) (.tmp 51) rfl _ E rfl o1' _ 1 [(t, false, false)] rfl hsrc2 (by omega) ?_))
      intro u2 Y2 o2 f2 k3
      have K3 : Keep (fun _ => False) W1 Y2 := K2.out.then k3 (fun k hk => .inr (F1'.out k hk))
      have F2 : ∀ k, u2.ownBlock = some k → W1.heap.size ≤ k := fun k hk => (f2 k hk).elim (fun h => F1'.out k h) (fun h => by have := S1.out; omega)
      obtain ⟨h2, hf⟩ := M.out.sp V0.out (K3.mono fun _ _ h => h.elim)
      have st := N2.out.storedT M.out hGb GV.out V0.out (K3.mono fun _ _ h => h.elim) o2 (fun k hk => .inr (F2 k hk))
      have ST : StepM 58 w0 G w (Y2.setCell ⟨b, 0, none⟩ u2) b (tcs (E ++ [(t, false, false)])) := StepM.trans ⟨N2.out, fun _ hk => .inl hk, KX.out.mono fun _ _ h => h.elim⟩ st
      have ST := hid ST
      obtain ⟨a2, n2', hv2⟩ := o2.form
      generalize (E ++ [(t, false, false)]).length = m2 at hv2
      subst hv2
      refine hK _ _ ?_
      clear hK K o2 f2 k3 K3 F2 st hsrc2 o1' d0 k2
      go_wp2
      go_ret
      exact ⟨rfl, ST.out⟩

theorem twant_any (t : Int) (wr wait : Bool) (h : MNew 58 w0 w G b (tcs E)) (hn : E.length ≤ 1000) {e : Int} {E' : List On} (hb : wnt E t wr wait = (e, E')) :
    Calls Try.prog 51 #[.pointer (some ⟨b, 0, none⟩), .int .i64 t, .bool wr, .bool wait] w fun en w' => en = .returned (.int .i64 e) ∧ StepM 58 w0 G w w' b (tcs E') := by
  unfold wnt at hb
  by_cases h1 : t < 1
  · rw [if_pos h1] at hb
    cases hb
    have HH := hid h
    clear h
    go_enter Try.func51, Try.ntmps51
    go_wp2
    go_ret
    exact ⟨rfl, HH.out.stay⟩
  rw [if_neg h1] at hb
  by_cases hm : t ∈ E.map (·.1)
  · rw [if_pos hm] at hb
    cases hb
    have HH := hid h
    have IX := hid (idx_in hm)
    clear h hm
    generalize (E.map (·.1)).idxOf t = i at IX
    have hi0 : (0 : Int) ≤ (i : Int) := by omega
    go_enter Try.func51, Try.ntmps51
    go_wp2_with fail
    refine (tat_any t HH.out hn).mono ?_
    rintro _ _ ⟨rfl, rfl⟩
    rw [IX.out]
    go_wp2
    go_ret
    exact ⟨rfl, HH.out.stay⟩
  rw [if_neg hm] at hb
  cases wr
  · exact twant_false t wait h hn h1 hm hb
  · exact twant_true t wait h hn h1 hm hb
end
end Go.Proofs.Ytegpoocmhamlpaa
