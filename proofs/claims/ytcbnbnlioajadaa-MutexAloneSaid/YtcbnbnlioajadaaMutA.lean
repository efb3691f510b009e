/- The walks of package mutex. -/
import Derived.Test.YtcbnbnlioajadaaObj
namespace Go.Proofs.Ytcbnbnlioajadaa
open Go Go.RowKit

def mpre (d : Int) : List Value := [.int .i64 d]

set_option maxHeartbeats 400000 in
theorem mnew_any (w : World) :
    Calls Try.prog 24 #[] w fun e w' => e = .returned (.pointer (some ⟨w.heap.size, 0, none⟩)) ∧ ∃ G, ONew 69 w w' G w.heap.size (mpre 0) [] := by
  have fin : ObjAt 69 (w.alloc (.cells #[.int .i64 0, .slice none 0 0] 69)) w.heap.size (mpre 0) (.slice none 0 0) [] :=
    ⟨heap_alloc_new w _, OwnI.nil _, by simp [Value.ownBlock]⟩
  have F := hid fin
  clear fin
  go_enter Try.func24, Try.ntmps24
  go_wp2
  go_ret
  exact ⟨rfl, fun k => k = w.heap.size, ⟨rfl, fun k hk => by subst hk; exact F.out.lt, _, F.out, fun k hk => by simp [Value.ownBlock] at hk⟩, fun k hk => Nat.le_of_eq hk.symm, (Keep.refl _ _).alloc _⟩

section
variable {w0 w : World} {G : Nat → Prop} {b : Nat} {d : Int} {l : List Int}

set_option maxHeartbeats 400000 in
theorem mholder_any (h : ONew 69 w0 w G b (mpre d) l) :
    Calls Try.prog 32 #[.pointer (some ⟨b, 0, none⟩)] w fun e w' => e = .returned (.int .i64 d) ∧ w = w' := by
  obtain ⟨⟨_, _, v, h, _⟩, _⟩ := h
  have h1 := h.get 0 (u := .int .i64 d) rfl
  clear h
  go_enter Try.func32, Try.ntmps32
  go_wp2
  go_ret
  exact ⟨rfl, rfl⟩

set_option maxHeartbeats 400000 in
theorem mwaits_any (h : ONew 69 w0 w G b (mpre d) l) (hn : l.length ≤ 1000) :
    Calls Try.prog 34 #[.pointer (some ⟨b, 0, none⟩)] w fun e w' => ∃ a n, e = .returned (.slice a l.length n) ∧ ReadI w' (.slice a l.length n) l ∧ ONew 69 w0 w' G b (mpre d) l ∧ Keep (fun _ => False) w w' ∧ ∀ k, (Value.slice a l.length n).ownBlock = some k → w.heap.size ≤ k := by
  have HH := hid h
  obtain ⟨⟨_, _, v, h, _⟩, _⟩ := h
  have h1 : w.cell? ⟨b, 1, none⟩ = some v := h.list
  have H := hid h.own
  clear h
  go_enter Try.func34, Try.ntmps34
  go_wp2_with fail
  refine (clone_any H.out (by omega)).mono ?_
  rintro _ w1 ⟨v1, rfl, o1, f1, k1⟩
  obtain ⟨a, n, rfl⟩ := o1.form
  have R := hid o1.reads
  have K1 := hid k1
  have hle := own_cap o1
  have F1 := hid f1
  clear o1 f1 k1
  go_wp2_with fail
  refine (clip_any a l.length n hle).mono ?_
  rintro _ w2 ⟨rfl, rfl⟩
  go_wp2
  go_ret
  exact ⟨_, _, rfl, R.out.recap, HH.out.keep K1.out (fun _ h => h.elim), K1.out, fun k hk => F1.out k (by cases a <;> exact hk)⟩


/-- What is wrong with a task that wants it. -/
def mwr (d : Int) (l : List Int) (t : Int) : Int := if t < 1 then 1 else if d = t ∨ t ∈ l then 11 else 0

theorem mwr_lo {d : Int} {l : List Int} {t : Int} (h : t < 1) : mwr d l t = 1 := by unfold mwr; rw [if_pos h]
theorem mwr_in {d : Int} {l : List Int} {t : Int} (h : 1 ≤ t) (h1 : d = t ∨ t ∈ l) : mwr d l t = 11 := by unfold mwr; rw [if_neg (by omega), if_pos h1]
theorem mwr_ok {d : Int} {l : List Int} {t : Int} (h : 1 ≤ t) (h1 : d ≠ t) (h2 : t ∉ l) : mwr d l t = 0 := by unfold mwr; rw [if_neg (by omega), if_neg (by simp [h1, h2])]
theorem mwr_cases (d : Int) (l : List Int) (t : Int) : (mwr d l t = 1 ∧ t < 1) ∨ (mwr d l t = 11 ∧ 1 ≤ t ∧ (d = t ∨ t ∈ l)) ∨ (mwr d l t = 0 ∧ 1 ≤ t ∧ d ≠ t ∧ t ∉ l) := by
  by_cases h : t < 1
  · exact .inl ⟨mwr_lo h, h⟩
  by_cases h1 : d = t
  · exact .inr (.inl ⟨mwr_in (by omega) (.inl h1), by omega, .inl h1⟩)
  by_cases h2 : t ∈ l
  · exact .inr (.inl ⟨mwr_in (by omega) (.inr h2), by omega, .inr h2⟩)
  · exact .inr (.inr ⟨mwr_ok (by omega) h1 h2, by omega, h1, h2⟩)

set_option maxHeartbeats 400000 in
theorem mwrong_any (t : Int) (h : ONew 69 w0 w G b (mpre d) l) :
    Calls Try.prog 43 #[.pointer (some ⟨b, 0, none⟩), .int .i64 t] w fun e w' => e = .returned (.int .i64 (mwr d l t)) ∧ w = w' := by
  obtain ⟨⟨_, _, v, h, _⟩, _⟩ := h
  have h1 := h.get 0 (u := .int .i64 d) rfl
  have h2 : w.cell? ⟨b, 1, none⟩ = some v := h.list
  have H := hid h.own.reads
  obtain ⟨a0, n0, hv⟩ := h.own.form
  rw [hv] at h2
  have HV := hid hv
  clear h hv
  by_cases ht : t < 1
  · have E := hid (mwr_lo (d := d) (l := l) ht)
    go_enter Try.func43, Try.ntmps43
    go_wp2
    go_ret
    exact ⟨by rw [E.out]; rfl, rfl⟩
  by_cases hdt : d = t
  · have E := hid (mwr_in (l := l) (by omega) (.inl hdt))
    have hd1 : (d == t) = true := by simp [hdt]
    clear hdt
    go_enter Try.func43, Try.ntmps43
    go_wp2
    go_ret
    exact ⟨by rw [E.out]; rfl, rfl⟩
  have hd1 : (d == t) = false := by simp [hdt]
  by_cases hm : t ∈ l
  · have E := hid (mwr_in (d := d) (by omega) (.inr hm))
    have hd : decide (t ∈ l) = true := decide_eq_true hm
    clear hm hdt
    go_enter Try.func43, Try.ntmps43
    go_wp2_with fail
    refine (contains_any t (l := l) (v := .slice a0 l.length n0) (by rw [← HV.out]; exact H.out)).mono ?_
    rintro _ _ ⟨rfl, rfl⟩
    rw [hd]
    go_wp2
    go_ret
    exact ⟨by rw [E.out]; rfl, rfl⟩
  have E := hid (mwr_ok (by omega) hdt hm)
  have hd : decide (t ∈ l) = false := decide_eq_false hm
  clear hm hdt
  go_enter Try.func43, Try.ntmps43
  go_wp2_with fail
  refine (contains_any t (l := l) (v := .slice a0 l.length n0) (by rw [← HV.out]; exact H.out)).mono ?_
  rintro _ _ ⟨rfl, rfl⟩
  rw [hd]
  go_wp2
  go_ret
  exact ⟨by rw [E.out]; rfl, rfl⟩

/-- What a Try answers, and who holds it then. -/
def mtr (d : Int) (l : List Int) (t : Int) : Int × Int := if mwr d l t = 0 then (if d = 0 then (0, t) else (12, d)) else (mwr d l t, d)

set_option maxHeartbeats 1000000 in
theorem mtry_any (t : Int) (h : ONew 69 w0 w G b (mpre d) l) {e d' : Int} (hb : mtr d l t = (e, d')) :
    Calls Try.prog 27 #[.pointer (some ⟨b, 0, none⟩), .int .i64 t] w fun en w' => en = .returned (.int .i64 e) ∧ StepO 69 w0 G w w' b (mpre d') l := by
  have HH := hid h
  obtain ⟨⟨hGb, hG, v, h, hGv⟩, _⟩ := h
  have h1 := h.get 0 (u := .int .i64 d) rfl
  have hf := h.fro 0
  have H := hid h
  clear h
  have same : Hid (StepO 69 w0 G w w b (mpre d) l) := HH.out.on HH.out.1.after
  by_cases hwr : mwr d l t = 0
  · by_cases hd0 : d = 0
    · obtain ⟨rfl, rfl⟩ : 0 = e ∧ t = d' := by simpa [mtr, hwr, hd0 ▸ hwr, hd0] using hb
      have hz : (d != 0) = false := by simp [hd0]
      have W := hid hwr
      have H1 := hid (H.out.setPre 0 (by simp [mpre]) (.int .i64 t))
      clear hb hd0 hwr
      go_enter Try.func27, Try.ntmps27
      go_wp2_with fail
      refine (mwrong_any t HH.out).mono ?_
      rintro _ _ ⟨rfl, rfl⟩
      rw [W.out]
      go_wp2
      go_ret
      exact ⟨rfl, HH.out.on (AfterO.mk (Keep.refl _ _) hGb _ H1.out fun k hk => .inl (hGv k hk))⟩
    · obtain ⟨rfl, rfl⟩ : 12 = e ∧ d = d' := by simpa [mtr, hwr, hd0] using hb
      have hz : (d != 0) = true := by simp [hd0]
      have W := hid hwr
      clear hb hd0 hwr
      go_enter Try.func27, Try.ntmps27
      go_wp2_with fail
      refine (mwrong_any t HH.out).mono ?_
      rintro _ _ ⟨rfl, rfl⟩
      rw [W.out]
      go_wp2
      go_ret
      exact ⟨rfl, same.out⟩
  · obtain ⟨he, rfl⟩ : mwr d l t = e ∧ d = d' := by simpa [mtr, hwr] using hb
    have hz : (e != 0) = true := by rw [← he]; simp [hwr]
    have HE := hid he
    clear hb hwr he
    go_enter Try.func27, Try.ntmps27
    go_wp2_with fail
    refine (mwrong_any t HH.out).mono ?_
    rintro _ _ ⟨rfl, rfl⟩
    rw [HE.out]
    go_wp2
    go_ret
    exact ⟨rfl, same.out⟩

/-- What a Lock answers, who holds it then, and who waits. -/
def mlk (d : Int) (l : List Int) (t : Int) : Int × Int × List Int := if (mtr d l t).1 = 12 then (14, (mtr d l t).2, l ++ [t]) else ((mtr d l t).1, (mtr d l t).2, l)

set_option maxHeartbeats 1000000 in
theorem mlock_any (t : Int) (h : ONew 69 w0 w G b (mpre d) l) (hn : l.length ≤ 1000) {e d' : Int} {l' : List Int} (hb : mlk d l t = (e, d', l')) :
    Calls Try.prog 31 #[.pointer (some ⟨b, 0, none⟩), .int .i64 t] w fun en w' => en = .returned (.int .i64 e) ∧ StepO 69 w0 G w w' b (mpre d') l' := by
  obtain ⟨e1, d1, htr⟩ : ∃ e1 d1, mtr d l t = (e1, d1) := ⟨_, _, rfl⟩
  unfold mlk at hb
  rw [htr] at hb
  dsimp only at hb
  by_cases he : e1 = 12
  · rw [if_pos he] at hb
    subst he
    cases hb
    have HT := hid htr
    go_enter Try.func31, Try.ntmps31
    go_wp2_with fail
    refine (mtry_any t h HT.out).mono ?_
    rintro _ w2 ⟨rfl, G2, N2, J2, K2⟩
    have HH2 := hid N2
    have HS : Hid (∀ {w' : World}, AfterO 69 G2 w2 w' b (mpre d') (l ++ [t]) → StepO 69 w0 G w w' b (mpre d') (l ++ [t])) := by
      intro w' hA
      obtain ⟨G3, N3, J3, K3⟩ := HH2.out.on hA
      exact ⟨G3, N3, fun k hk => (J3 k hk).elim (J2 k) (fun h => .inr (Nat.le_trans K2.size h)), K2.then K3 J2⟩
    obtain ⟨⟨hGb, hG, v, h, hGv⟩, _⟩ := N2
    have h2 : w2.cell? ⟨b, 1, none⟩ = some v := h.list
    have H := hid h
    obtain ⟨a0, n0, hv⟩ := h.own.form
    have HV := hid hv
    rw [hv] at h2
    clear h hv htr J2 K2
    have K0 : Keep (fun _ => False) w2 (w2.alloc (.cells #[.int .i64 t] 3)) := (Keep.refl _ _).alloc _
    have hown := H.out.own.keep K0 (fun _ _ h => h)
    rw [HV.out] at hown
    have hsrc := one_srcI w2 t
    go_wp2_with (at_builtin; refine wpList_plain rfl (fun K hK => wp_append_ints _ (.tmp 16) (.tmp 18) rfl (.slice a0 l.length n0) l rfl hown _ 1 _ rfl hsrc (by omega) ?_))
    intro v1 w1 o1 f1 k1
    obtain ⟨a1, n1, hv1⟩ := o1.form
    generalize (l ++ [t]).length = m1 at hv1
    subst hv1
    refine hK _ _ ?_
    clear hK K
    have k2 : Keep (fun k => v.ownBlock = some k) w2 w1 := (K0.mono fun _ _ h => h.elim).trans (by rw [HV.out]; exact k1)
    have hr := (k2.block b H.out.lt H.out.ne).trans H.out.row
    have hne : (Value.slice a1 m1 n1).ownBlock ≠ some b := fun e => by
      rcases f1 b e with h | h
      · exact H.out.ne (by rw [HV.out]; exact h)
      · have := H.out.lt; omega
    have H1 := hid (ObjAt.setList hr o1 hne)
    have h1 : w1.cell? ⟨b, 1, none⟩ = some v := by rw [cell_of_row w1 b 1 _ _ _ hr]; rfl
    have hf : w1.frozen? ⟨b, 1, none⟩ = false := by simp [World.frozen?, hr]
    have HF : Hid (∀ k, (Value.slice a1 m1 n1).ownBlock = some k → G2 k ∨ w2.heap.size ≤ k) := fun k hk => (f1 k hk).elim (fun h => .inl (hGv k (by rw [HV.out]; exact h))) (fun h => .inr (by omega))
    have HK := hid (k2.mono fun k _ e => hGv k e)
    clear hne f1 k1 k2 hr o1 hsrc hown K0
    go_wp2
    go_ret
    exact ⟨rfl, HS.out (AfterO.mk HK.out hGb _ H1.out HF.out)⟩
  · rw [if_neg he] at hb
    cases hb
    have HT := hid htr
    have he1 : (e != 12) = true := by simp [he]
    clear htr he
    go_enter Try.func31, Try.ntmps31
    go_wp2_with fail
    refine (mtry_any t h HT.out).mono ?_
    rintro _ w2 ⟨rfl, st⟩
    have ST := hid st
    clear st
    go_wp2
    go_ret
    exact ⟨rfl, ST.out⟩

theorem munlock_no (t : Int) (h : ONew 69 w0 w G b (mpre d) l) (hdt : t < 1 ∨ d ≠ t) :
    Calls Try.prog 29 #[.pointer (some ⟨b, 0, none⟩), .int .i64 t] w fun en w' => en = .returned (.tuple #[.int .i64 0, .int .i64 (if t < 1 then 1 else 11)]) ∧ w = w' := by
  obtain ⟨⟨_, _, v, h, _⟩, _⟩ := h
  have h1 := h.get 0 (u := .int .i64 d) rfl
  clear h
  by_cases ht : t < 1
  · rw [if_pos ht]
    go_enter Try.func29, Try.ntmps29
    go_wp2
    go_ret2
    exact ⟨rfl, rfl⟩
  · rw [if_neg ht]
    have hd1 : (d != t) = true := by simp; omega
    clear hdt
    go_enter Try.func29, Try.ntmps29
    go_wp2
    go_ret2
    exact ⟨rfl, rfl⟩

set_option maxHeartbeats 1000000 in
theorem munlock_nil (h : ONew 69 w0 w G b (mpre d) []) (hd : 1 ≤ d) :
    Calls Try.prog 29 #[.pointer (some ⟨b, 0, none⟩), .int .i64 d] w fun en w' => en = .returned (.tuple #[.int .i64 0, .int .i64 0]) ∧ StepO 69 w0 G w w' b (mpre 0) [] := by
  have HH := hid h
  obtain ⟨⟨hGb, hG, v, h, hGv⟩, _⟩ := h
  have h1 := h.get 0 (u := .int .i64 d) rfl
  have h2 : w.cell? ⟨b, 1, none⟩ = some v := h.list
  have hf := h.fro 0
  obtain ⟨a0, n0, hv⟩ := h.own.form
  rw [hv] at h2
  have H1 := hid (h.setPre 0 (by simp [mpre]) (.int .i64 0))
  clear h hv
  go_enter Try.func29, Try.ntmps29
  go_wp2
  go_ret2
  exact ⟨rfl, HH.out.on (AfterO.mk (Keep.refl _ _) hGb _ H1.out fun k hk => .inl (hGv k hk))⟩

set_option maxRecDepth 10000 in
set_option maxHeartbeats 1000000 in
theorem munlock_cons (x : Int) (h : ONew 69 w0 w G b (mpre d) (x :: l)) (hd : 1 ≤ d) (hn : l.length ≤ 1000) :
    Calls Try.prog 29 #[.pointer (some ⟨b, 0, none⟩), .int .i64 d] w fun en w' => en = .returned (.tuple #[.int .i64 x, .int .i64 0]) ∧ StepO 69 w0 G w w' b (mpre x) l := by
  have HH := hid h
  obtain ⟨⟨hGb, hG, v, h, hGv⟩, _⟩ := h
  have h1 := h.get 0 (u := .int .i64 d) rfl
  have h2 : w.cell? ⟨b, 1, none⟩ = some v := h.list
  have hf := h.fro 0
  have hf1 := h.fro 1
  have H := hid h
  obtain ⟨g, off, a0, n0, hv, ha0, hx, hgb⟩ : ∃ g off, ∃ a0 n0, v = .slice a0 (l.length + 1) n0 ∧ a0 = some ⟨g, off, none⟩ ∧ w.cell? ⟨g, off, none⟩ = some (.int .i64 x) ∧ g ≠ b := by
    rcases h.own.reads with ⟨_, _, _, h0⟩ | ⟨g, off, c, h1, _, _, hc⟩
    · cases h0
    · refine ⟨g, off, _, c, h1, rfl, by simpa [nth] using hc 0 (by simp), fun e => h.ne ?_⟩
      rw [h1, e]; rfl
  subst ha0
  have HV := hid hv
  rw [hv] at h2
  have hl1 : (l.length : Int) + 1 ≤ 1001 := by omega
  have hl2 : (0 : Int) < (l.length : Int) + 1 := by omega
  have hgb' : b ≠ g := fun e => hgb e.symm
  clear h hv
  have H1 := hid ((H.out.setPre 0 (by simp [mpre]) (.int .i64 0)).setPre 0 (by simp [mpre]) (.int .i64 x))
  have K1 : Keep (fun k => k = b) w ((w.setCell ⟨b, 0, none⟩ (.int .i64 0)).setCell ⟨b, 0, none⟩ (.int .i64 x)) := ((Keep.refl _ _).setOwn _).setOwn _
  have K1 := hid K1
  go_enter Try.func29, Try.ntmps29
  go_wp2_with fail
  refine (delete_any 0 0 1 rfl rfl (by simp) (l := x :: l) (v := .slice (some ⟨g, off, none⟩) (l.length + 1) n0) (by rw [← HV.out]; exact H1.out.own)).mono ?_
  rintro _ w1 ⟨v1, rfl, o1, f1, k1⟩
  rw [← HV.out] at f1 k1
  replace o1 : OwnI w1 v1 l := o1
  obtain ⟨a1, n1, hv1⟩ := o1.form
  generalize l.length = m1 at hv1
  subst hv1
  have hr := (k1.block b H1.out.lt H1.out.ne).trans H1.out.row
  have hne : (Value.slice a1 m1 n1).ownBlock ≠ some b := fun e => H.out.ne (by rw [← f1]; exact e)
  have H2 := hid (ObjAt.setList (pre := mpre x) hr o1 hne)
  have h0 : w1.cell? ⟨b, 0, none⟩ = some (.int .i64 x) := by rw [cell_of_row w1 b 0 _ _ _ hr]; rfl
  have h1 : w1.cell? ⟨b, 1, none⟩ = some v := by rw [cell_of_row w1 b 1 _ _ _ hr]; rfl
  have hf : w1.frozen? ⟨b, 1, none⟩ = false := by simp [World.frozen?, hr]
  have HF : Hid (∀ k, (Value.slice a1 m1 n1).ownBlock = some k → G k ∨ w.heap.size ≤ k) := fun k hk => .inl (hGv k (by rw [← f1]; exact hk))
  have HK : Hid (Keep G w w1) := hid ((K1.out.mono fun k _ e => e ▸ hGb).trans (k1.mono fun k _ e => hGv k e))
  clear hne f1 k1 hr o1
  go_wp2
  go_ret2
  exact ⟨rfl, HH.out.on (AfterO.mk HK.out hGb _ H2.out HF.out)⟩
end

set_option maxHeartbeats 1000000 in
theorem mdrop_any {w0 w : World} {G : Nat → Prop} {b : Nat} {d : Int} {l : List Int} (t : Int) (h : ONew 69 w0 w G b (mpre d) l) (hn : l.length ≤ 1000) :
    Calls Try.prog 25 #[.pointer (some ⟨b, 0, none⟩), .int .i64 t] w fun e w' => e = .returned (.bool (decide (t ∈ l))) ∧ StepO 69 w0 G w w' b (mpre d) (dropT l t) := by
  have HH := hid h
  obtain ⟨⟨hGb, hG, v, h, hGv⟩, _⟩ := h
  have h1 : w.cell? ⟨b, 1, none⟩ = some v := h.list
  have H := hid h
  clear h
  go_enter Try.func25, Try.ntmps25
  go_wp2_with fail
  refine (index_any t H.out.own.reads).mono ?_
  rintro _ _ ⟨rfl, rfl⟩
  by_cases hm : t ∈ l
  · have hi : l.idxOf t < l.length := List.idxOf_lt_length_iff.2 hm
    have D := hid (dropT_in hm)
    have hd : Hid (decide (t ∈ l) = true) := decide_eq_true hm
    rw [idx_in hm]
    clear hm
    generalize l.idxOf t = i at hi D ⊢
    have hi' : (i : Int) ≤ 1000 := by omega
    have hi0 : (0 : Int) ≤ (i : Int) := by omega
    go_wp2_with fail
    refine (delete_any i _ _ rfl rfl hi H.out.own).mono ?_
    rintro _ w1 ⟨v1, rfl, o1, f1, k1⟩
    obtain ⟨a1, n1, hv1⟩ := o1.form
    generalize (l.eraseIdx i).length = m1 at hv1
    subst hv1
    have hr := (k1.block b H.out.lt H.out.ne).trans H.out.row
    have hne : (Value.slice a1 m1 n1).ownBlock ≠ some b := fun e => H.out.ne (by rw [← f1]; exact e)
    have H1 := hid (ObjAt.setList hr o1 hne)
    have h1 : w1.cell? ⟨b, 1, none⟩ = some v := by rw [cell_of_row w1 b 1 _ _ _ hr]; rfl
    have hf : w1.frozen? ⟨b, 1, none⟩ = false := by simp [World.frozen?, hr]
    have HF : Hid (∀ k, (Value.slice a1 m1 n1).ownBlock = some k → G k ∨ w.heap.size ≤ k) := fun k hk => .inl (hGv k (by rw [← f1]; exact hk))
    have HK := hid (k1.mono fun k _ e => hGv k e)
    clear hne f1 k1 hr o1
    go_wp2
    go_ret
    rw [hd.out, D.out]
    exact ⟨rfl, HH.out.on (AfterO.mk HK.out hGb _ H1.out HF.out)⟩
  · have D := hid (dropT_no hm)
    have hd : Hid (decide (t ∈ l) = false) := decide_eq_false hm
    rw [idx_out hm]
    clear hm
    go_wp2
    go_ret
    rw [hd.out, D.out]
    exact ⟨rfl, HH.out.on HH.out.1.after⟩


set_option maxHeartbeats 400000 in
theorem munlock_none (t : Int) (w : World) : Calls Try.prog 29 #[.pointer none, .int .i64 t] w fun e w' => e = .returned (.tuple #[.int .i64 0, .int .i64 1]) ∧ w = w' := by
  go_enter Try.func29, Try.ntmps29
  go_wp2
  go_ret2
  exact ⟨rfl, rfl⟩

set_option maxHeartbeats 400000 in
theorem mdrop_nil (t : Int) (w : World) : Calls Try.prog 25 #[.pointer none, .int .i64 t] w fun e w' => e = .returned (.bool false) ∧ w = w' := by
  go_enter Try.func25, Try.ntmps25
  go_wp2
  go_ret
  exact ⟨rfl, rfl⟩

set_option maxHeartbeats 400000 in
theorem mwrong_nil (t : Int) (w : World) : Calls Try.prog 43 #[.pointer none, .int .i64 t] w fun e w' => e = .returned (.int .i64 1) ∧ w = w' := by
  go_enter Try.func43, Try.ntmps43
  go_wp2
  go_ret
  exact ⟨rfl, rfl⟩

set_option maxHeartbeats 400000 in
theorem mholder_nil (w : World) : Calls Try.prog 32 #[.pointer none] w fun e w' => e = .returned (.int .i64 0) ∧ w = w' := by
  go_enter Try.func32, Try.ntmps32
  go_wp2
  go_ret
  exact ⟨rfl, rfl⟩

set_option maxHeartbeats 400000 in
theorem mwaits_nil (w : World) : Calls Try.prog 34 #[.pointer none] w fun e w' => e = .returned (.slice none 0 0) ∧ w = w' := by
  go_enter Try.func34, Try.ntmps34
  go_wp2
  go_ret
  exact ⟨rfl, rfl⟩

set_option maxHeartbeats 400000 in
theorem mtry_nil (t : Int) (w : World) : Calls Try.prog 27 #[.pointer none, .int .i64 t] w fun e w' => e = .returned (.int .i64 1) ∧ w = w' := by
  go_enter Try.func27, Try.ntmps27
  go_wp2_with fail
  refine (mwrong_nil t w).mono ?_
  rintro _ _ ⟨rfl, rfl⟩
  go_wp2
  go_ret
  exact ⟨rfl, rfl⟩

set_option maxHeartbeats 400000 in
theorem mlock_nil (t : Int) (w : World) : Calls Try.prog 31 #[.pointer none, .int .i64 t] w fun e w' => e = .returned (.int .i64 1) ∧ w = w' := by
  go_enter Try.func31, Try.ntmps31
  go_wp2_with fail
  refine (mtry_nil t w).mono ?_
  rintro _ _ ⟨rfl, rfl⟩
  go_wp2
  go_ret
  exact ⟨rfl, rfl⟩

end Go.Proofs.Ytcbnbnlioajadaa
