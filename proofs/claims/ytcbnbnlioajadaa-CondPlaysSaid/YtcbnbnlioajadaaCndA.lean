/- The walks of package cond. -/
import Derived.Test.YtcbnbnlioajadaaObj
namespace Go.Proofs.Ytcbnbnlioajadaa
open Go Go.RowKit

set_option maxHeartbeats 400000 in
theorem cnew_any (w : World) :
    Calls Try.prog 12 #[] w fun e w' => e = .returned (.pointer (some ⟨w.heap.size, 0, none⟩)) ∧ ∃ G, ONew 63 w w' G w.heap.size [] [] := by
  have fin : ObjAt 63 (w.alloc (.cells #[.slice none 0 0] 63)) w.heap.size [] (.slice none 0 0) [] :=
    ⟨heap_alloc_new w _, OwnI.nil _, by simp [Value.ownBlock]⟩
  have F := hid fin
  clear fin
  go_enter Try.func12, Try.ntmps12
  go_wp2
  go_ret
  exact ⟨rfl, fun k => k = w.heap.size, ⟨rfl, fun k hk => by subst hk; exact F.out.lt, _, F.out, fun k hk => by simp [Value.ownBlock] at hk⟩, fun k hk => Nat.le_of_eq hk.symm, (Keep.refl _ _).alloc _⟩

section
variable {w0 w : World} {G : Nat → Prop} {b : Nat} {l : List Int}

set_option maxHeartbeats 400000 in
theorem cwaits_any (h : ONew 63 w0 w G b [] l) (hn : l.length ≤ 1000) :
    Calls Try.prog 22 #[.pointer (some ⟨b, 0, none⟩)] w fun e w' => ∃ a n, e = .returned (.slice a l.length n) ∧ ReadI w' (.slice a l.length n) l ∧ ONew 63 w0 w' G b [] l ∧ Keep (fun _ => False) w w' := by
  have HH := hid h
  obtain ⟨⟨_, _, v, h, _⟩, _⟩ := h
  have h1 : w.cell? ⟨b, 0, none⟩ = some v := h.list
  have H := hid h.own
  clear h
  go_enter Try.func22, Try.ntmps22
  go_wp2_with fail
  refine (clone_any H.out (by omega)).mono ?_
  rintro _ w1 ⟨v1, rfl, o1, f1, k1⟩
  obtain ⟨a, n, rfl⟩ := o1.form
  have R := hid o1.reads
  have K1 := hid k1
  have hle := own_cap o1
  clear o1 f1 k1
  go_wp2_with fail
  refine (clip_any a l.length n hle).mono ?_
  rintro _ w2 ⟨rfl, rfl⟩
  go_wp2
  go_ret
  exact ⟨_, _, rfl, R.out.recap, HH.out.keep K1.out (fun _ h => h.elim), K1.out⟩

/-- What a Wait answers. -/
def cwt (l : List Int) (t : Int) : Int × List Int := if t < 1 then (1, l) else if t ∈ l then (11, l) else (14, l ++ [t])

theorem cwt_on {l : List Int} {t : Int} (h1 : 1 ≤ t) (h2 : t ∉ l) : cwt l t = (14, l ++ [t]) := by unfold cwt; rw [if_neg (by omega), if_neg h2]
theorem cwt_in {l : List Int} {t : Int} (h1 : 1 ≤ t) (h2 : t ∈ l) : cwt l t = (11, l) := by unfold cwt; rw [if_neg (by omega), if_pos h2]
theorem cwt_lo {l : List Int} {t : Int} (h1 : t < 1) : cwt l t = (1, l) := by unfold cwt; rw [if_pos h1]

set_option maxHeartbeats 1000000 in
theorem cwait_any (t : Int) (h : ONew 63 w0 w G b [] l) (hn : l.length ≤ 1000) {e : Int} {l' : List Int} (hb : cwt l t = (e, l')) :
    Calls Try.prog 20 #[.pointer (some ⟨b, 0, none⟩), .int .i64 t] w fun en w' => en = .returned (.int .i64 e) ∧ StepO 63 w0 G w w' b [] l' := by
  have HH := hid h
  obtain ⟨⟨hGb, hG, v, h, hGv⟩, _⟩ := h
  have h2 : w.cell? ⟨b, 0, none⟩ = some v := h.list
  have H := hid h
  obtain ⟨a0, n0, hv⟩ := h.own.form
  have HV := hid hv
  rw [hv] at h2
  clear h hv
  have same : Hid (StepO 63 w0 G w w b [] l) := HH.out.on HH.out.1.after
  by_cases ht : t < 1
  · rw [cwt_lo ht] at hb
    cases hb
    go_enter Try.func20, Try.ntmps20
    go_wp2
    go_ret
    exact ⟨rfl, same.out⟩
  by_cases hm : t ∈ l
  · rw [cwt_in (by omega) hm] at hb
    cases hb
    have hd : decide (t ∈ l) = true := decide_eq_true hm
    clear hm
    go_enter Try.func20, Try.ntmps20
    go_wp2_with fail
    refine (contains_any t (l := l) (v := .slice a0 l.length n0) (by rw [← HV.out]; exact H.out.own.reads)).mono ?_
    rintro _ _ ⟨rfl, rfl⟩
    rw [hd]
    go_wp2
    go_ret
    exact ⟨rfl, same.out⟩
  rw [cwt_on (by omega) hm] at hb
  cases hb
  have hd : decide (t ∈ l) = false := decide_eq_false hm
  clear hm
  go_enter Try.func20, Try.ntmps20
  go_wp2_with fail
  refine (contains_any t (l := l) (v := .slice a0 l.length n0) (by rw [← HV.out]; exact H.out.own.reads)).mono ?_
  rintro _ _ ⟨rfl, rfl⟩
  rw [hd]
  have K0 : Keep (fun _ => False) w (w.alloc (.cells #[.int .i64 t] 3)) := (Keep.refl _ _).alloc _
  have hown := H.out.own.keep K0 (fun _ _ h => h)
  rw [HV.out] at hown
  have hsrc := one_srcI w t
  go_wp2_with (at_builtin; refine wpList_plain rfl (fun K hK => wp_append_ints _ (.tmp 23) (.tmp 25) rfl (.slice a0 l.length n0) l rfl hown _ 1 _ rfl hsrc (by omega) ?_))
  intro v1 w1 o1 f1 k1
  obtain ⟨a1, n1, hv1⟩ := o1.form
  generalize (l ++ [t]).length = m1 at hv1
  subst hv1
  refine hK _ _ ?_
  clear hK K
  have k2 : Keep (fun k => v.ownBlock = some k) w w1 := (K0.mono fun _ _ h => h.elim).trans (by rw [HV.out]; exact k1)
  have hr := (k2.block b H.out.lt H.out.ne).trans H.out.row
  have hne : (Value.slice a1 m1 n1).ownBlock ≠ some b := fun e => by
    rcases f1 b e with h | h
    · exact H.out.ne (by rw [HV.out]; exact h)
    · have := H.out.lt; omega
  have H1 := hid (ObjAt.setList hr o1 hne)
  have h1 : w1.cell? ⟨b, 0, none⟩ = some v := by rw [cell_of_row w1 b 0 _ _ _ hr]; rfl
  have hf : w1.frozen? ⟨b, 0, none⟩ = false := by simp [World.frozen?, hr]
  have HF : Hid (∀ k, (Value.slice a1 m1 n1).ownBlock = some k → G k ∨ w.heap.size ≤ k) := fun k hk => (f1 k hk).elim (fun h => .inl (hGv k (by rw [HV.out]; exact h))) (fun h => .inr (by omega))
  have HK := hid (k2.mono fun k _ e => hGv k e)
  clear hne f1 k1 k2 hr o1 hsrc hown K0
  go_wp2
  go_ret
  exact ⟨rfl, HH.out.on (AfterO.mk HK.out hGb _ H1.out HF.out)⟩

set_option maxHeartbeats 1000000 in
theorem csignal_nil (h : ONew 63 w0 w G b [] []) :
    Calls Try.prog 15 #[.pointer (some ⟨b, 0, none⟩)] w fun en w' => en = .returned (.tuple #[.int .i64 0, .bool false]) ∧ w = w' := by
  obtain ⟨⟨hGb, hG, v, h, hGv⟩, _⟩ := h
  have h2 : w.cell? ⟨b, 0, none⟩ = some v := h.list
  obtain ⟨a0, n0, hv⟩ := h.own.form
  rw [hv] at h2
  clear h hv hGv
  go_enter Try.func15, Try.ntmps15
  go_wp2
  go_ret2
  exact ⟨rfl, rfl⟩

set_option maxHeartbeats 1000000 in
theorem csignal_cons (x : Int) (h : ONew 63 w0 w G b [] (x :: l)) (hn : l.length ≤ 1000) :
    Calls Try.prog 15 #[.pointer (some ⟨b, 0, none⟩)] w fun en w' => en = .returned (.tuple #[.int .i64 x, .bool true]) ∧ StepO 63 w0 G w w' b [] l := by
  have HH := hid h
  obtain ⟨⟨hGb, hG, v, h, hGv⟩, _⟩ := h
  have h2 : w.cell? ⟨b, 0, none⟩ = some v := h.list
  have H := hid h
  obtain ⟨g, off, a0, n0, hv, hx⟩ : ∃ g off, ∃ a0 n0, v = .slice a0 (l.length + 1) n0 ∧ a0 = some ⟨g, off, none⟩ ∧ w.cell? ⟨g, off, none⟩ = some (.int .i64 x) := by
    rcases h.own.reads with ⟨_, _, _, h0⟩ | ⟨g, off, c, h1, _, _, hc⟩
    · cases h0
    · exact ⟨g, off, _, c, h1, rfl, by simpa [nth] using hc 0 (by simp)⟩
  obtain ⟨rfl, hx⟩ := hx
  have HV := hid hv
  rw [hv] at h2
  have hl1 : (l.length : Int) + 1 ≤ 1001 := by omega
  have hl2 : (0 : Int) < (l.length : Int) + 1 := by omega
  have hl3 : ((l.length : Int) + 1 == 0) = false := by simp; omega
  clear h hv
  go_enter Try.func15, Try.ntmps15
  go_wp2_with fail
  refine (delete_any 0 0 1 rfl rfl (by simp) (l := x :: l) (v := .slice (some ⟨g, off, none⟩) (l.length + 1) n0) (by rw [← HV.out]; exact H.out.own)).mono ?_
  rintro _ w1 ⟨v1, rfl, o1, f1, k1⟩
  rw [← HV.out] at f1 k1
  replace o1 : OwnI w1 v1 l := o1
  obtain ⟨a1, n1, hv1⟩ := o1.form
  generalize l.length = m1 at hv1
  subst hv1
  have hr := (k1.block b H.out.lt H.out.ne).trans H.out.row
  have hne : (Value.slice a1 m1 n1).ownBlock ≠ some b := fun e => H.out.ne (by rw [← f1]; exact e)
  have H1 := hid (ObjAt.setList hr o1 hne)
  have h1 : w1.cell? ⟨b, 0, none⟩ = some v := by rw [cell_of_row w1 b 0 _ _ _ hr]; rfl
  have hf : w1.frozen? ⟨b, 0, none⟩ = false := by simp [World.frozen?, hr]
  have HF : Hid (∀ k, (Value.slice a1 m1 n1).ownBlock = some k → G k ∨ w.heap.size ≤ k) := fun k hk => .inl (hGv k (by rw [← f1]; exact hk))
  have HK := hid (k1.mono fun k _ e => hGv k e)
  clear hne f1 k1 hr o1
  go_wp2
  go_ret2
  exact ⟨rfl, HH.out.on (AfterO.mk HK.out hGb _ H1.out HF.out)⟩

set_option maxHeartbeats 1000000 in
theorem cbroad_any (h : ONew 63 w0 w G b [] l) (hn : l.length ≤ 1000) :
    Calls Try.prog 19 #[.pointer (some ⟨b, 0, none⟩)] w fun en w' => ∃ a m, en = .returned (.slice a l.length m) ∧ OutO 63 w0 G w w' b [] [] a m l := by
  have HH := hid h
  obtain ⟨⟨hGb, hG, v, h, hGv⟩, hlow, hkeep⟩ := h
  have h2 : w.cell? ⟨b, 0, none⟩ = some v := h.list
  have hf := h.fro 0
  have H := hid h
  obtain ⟨a0, n0, hv⟩ := h.own.form
  have hcap : l.length ≤ n0 := own_cap (w := w) (l := l) (a := a0) (by rw [← hv]; exact h.own)
  have HV := hid hv
  rw [hv] at h2
  have HL := hid hlow
  have HK := hid hkeep
  have H2 : Hid (ObjAt 63 (w.setCell ⟨b, 0, none⟩ (.slice none 0 0)) b [] (.slice none 0 0) []) := hid (ObjAt.setList (pre := []) h.row (OwnI.nil _) (by simp [Value.ownBlock]))
  have K2 : Keep (fun k => k = b) w (w.setCell ⟨b, 0, none⟩ (.slice none 0 0)) := (Keep.refl _ _).setOwn _
  have R2 := hid (h.own.keep K2 (fun k hk e => h.ne (e ▸ hk))).reads
  have K3 := hid K2
  clear h hv hlow hkeep K2
  go_enter Try.func19, Try.ntmps19
  go_wp2_with fail
  refine (clip_any a0 l.length n0 hcap).mono ?_
  rintro _ _ ⟨rfl, rfl⟩
  go_wp2
  go_ret
  refine ⟨a0, l.length, rfl, ReadI.recap (by rw [← HV.out]; exact R2.out), K3.out.mono fun k _ e => e ▸ hGb, fun k => k = b, ⟨⟨rfl, fun k hk => hk ▸ H2.out.lt, _, H2.out, fun k hk => by simp [Value.ownBlock] at hk⟩, fun k hk => hk ▸ HL.out b hGb, HK.out.then K3.out fun k hk => .inr (hk ▸ HL.out b hGb)⟩, fun k hk => .inl (hk ▸ hGb), fun k hk => ?_⟩
  have hk' : v.ownBlock = some k := by rw [HV.out]; cases a0 <;> exact hk
  exact ⟨.inl (hGv k hk'), Nat.lt_of_lt_of_le (hG k (hGv k hk')) K3.out.size, fun e => H.out.ne (e ▸ hk')⟩
end

set_option maxHeartbeats 1000000 in
theorem cdrop_any {w0 w : World} {G : Nat → Prop} {b : Nat} {l : List Int} (t : Int) (h : ONew 63 w0 w G b [] l) (hn : l.length ≤ 1000) :
    Calls Try.prog 13 #[.pointer (some ⟨b, 0, none⟩), .int .i64 t] w fun e w' => e = .returned (.bool (decide (t ∈ l))) ∧ StepO 63 w0 G w w' b [] (dropT l t) := by
  have HH := hid h
  obtain ⟨⟨hGb, hG, v, h, hGv⟩, _⟩ := h
  have h1 : w.cell? ⟨b, 0, none⟩ = some v := h.list
  have H := hid h
  clear h
  go_enter Try.func13, Try.ntmps13
  go_wp2_with fail
  refine (index_any t H.out.own.reads).mono ?_
  rintro _ _ ⟨rfl, rfl⟩
  by_cases hm : t ∈ l
  · have hi : l.idxOf t < l.length := List.idxOf_lt_length_iff.2 hm
    have D := hid (dropT_in hm)
    have hd : Hid (decide (t ∈ l) = true) := decide_eq_true hm
    rw [idx_in hm]
    clear hm
    generalize l.idxOf t = i at hi D ⊢
    have hi' : (i : Int) ≤ 1000 := by omega
    have hi0 : (0 : Int) ≤ (i : Int) := by omega
    go_wp2_with fail
    refine (delete_any i _ _ rfl rfl hi H.out.own).mono ?_
    rintro _ w1 ⟨v1, rfl, o1, f1, k1⟩
    obtain ⟨a1, n1, hv1⟩ := o1.form
    generalize (l.eraseIdx i).length = m1 at hv1
    subst hv1
    have hr := (k1.block b H.out.lt H.out.ne).trans H.out.row
    have hne : (Value.slice a1 m1 n1).ownBlock ≠ some b := fun e => H.out.ne (by rw [← f1]; exact e)
    have H1 := hid (ObjAt.setList hr o1 hne)
    have h1 : w1.cell? ⟨b, 0, none⟩ = some v := by rw [cell_of_row w1 b 0 _ _ _ hr]; rfl
    have hf : w1.frozen? ⟨b, 0, none⟩ = false := by simp [World.frozen?, hr]
    have HF : Hid (∀ k, (Value.slice a1 m1 n1).ownBlock = some k → G k ∨ w.heap.size ≤ k) := fun k hk => .inl (hGv k (by rw [← f1]; exact hk))
    have HK := hid (k1.mono fun k _ e => hGv k e)
    clear hne f1 k1 hr o1
    go_wp2
    go_ret
    rw [hd.out, D.out]
    exact ⟨rfl, HH.out.on (AfterO.mk HK.out hGb _ H1.out HF.out)⟩
  · have D := hid (dropT_no hm)
    have hd : Hid (decide (t ∈ l) = false) := decide_eq_false hm
    rw [idx_out hm]
    clear hm
    go_wp2
    go_ret
    rw [hd.out, D.out]
    exact ⟨rfl, HH.out.on HH.out.1.after⟩


set_option maxHeartbeats 400000 in
theorem cwait_nil (t : Int) (w : World) : Calls Try.prog 20 #[.pointer none, .int .i64 t] w fun e w' => e = .returned (.int .i64 1) ∧ w = w' := by
  go_enter Try.func20, Try.ntmps20
  go_wp2
  go_ret
  exact ⟨rfl, rfl⟩

set_option maxHeartbeats 400000 in
theorem csignal_none (w : World) : Calls Try.prog 15 #[.pointer none] w fun e w' => e = .returned (.tuple #[.int .i64 0, .bool false]) ∧ w = w' := by
  go_enter Try.func15, Try.ntmps15
  go_wp2
  go_ret2
  exact ⟨rfl, rfl⟩

set_option maxHeartbeats 400000 in
theorem cdrop_nil (t : Int) (w : World) : Calls Try.prog 13 #[.pointer none, .int .i64 t] w fun e w' => e = .returned (.bool false) ∧ w = w' := by
  go_enter Try.func13, Try.ntmps13
  go_wp2
  go_ret
  exact ⟨rfl, rfl⟩

set_option maxHeartbeats 400000 in
theorem cbroad_nil (w : World) : Calls Try.prog 19 #[.pointer none] w fun e w' => e = .returned (.slice none 0 0) ∧ w = w' := by
  go_enter Try.func19, Try.ntmps19
  go_wp2
  go_ret
  exact ⟨rfl, rfl⟩

set_option maxHeartbeats 400000 in
theorem cwaits_nil (w : World) : Calls Try.prog 22 #[.pointer none] w fun e w' => e = .returned (.slice none 0 0) ∧ w = w' := by
  go_enter Try.func22, Try.ntmps22
  go_wp2
  go_ret
  exact ⟨rfl, rfl⟩

end Go.Proofs.Ytcbnbnlioajadaa
