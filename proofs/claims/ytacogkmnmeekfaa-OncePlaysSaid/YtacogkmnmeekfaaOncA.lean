/- The walks of package once. -/
import Derived.Test.YtacogkmnmeekfaaObj
namespace Go.Proofs.Ytacogkmnmeekfaa
open Go Go.RowKit

def opre (d : Int) (o : Bool) : List Value := [.int .i64 d, .bool o]

set_option maxHeartbeats 400000 in
theorem onew_any (w : World) :
    Calls Try.prog 12 #[] w fun e w' => e = .returned (.pointer (some ⟨w.heap.size, 0, none⟩)) ∧ ∃ G, ONew 61 w w' G w.heap.size (opre 0 false) [] := by
  have fin : ObjAt 61 (w.alloc (.cells #[.int .i64 0, .bool false, .slice none 0 0] 61)) w.heap.size (opre 0 false) (.slice none 0 0) [] :=
    ⟨heap_alloc_new w _, OwnI.nil _, by simp [Value.ownBlock]⟩
  have F := hid fin
  clear fin
  go_enter Try.func12, Try.ntmps12
  go_wp2
  go_ret
  exact ⟨rfl, fun k => k = w.heap.size, ⟨rfl, fun k hk => by subst hk; exact F.out.lt, _, F.out, fun k hk => by simp [Value.ownBlock] at hk⟩, fun k hk => Nat.le_of_eq hk.symm, (Keep.refl _ _).alloc _⟩

section
variable {w0 w : World} {G : Nat → Prop} {b : Nat} {d : Int} {o : Bool} {l : List Int}

set_option maxHeartbeats 400000 in
theorem odoer_any (h : ONew 61 w0 w G b (opre d o) l) :
    Calls Try.prog 16 #[.pointer (some ⟨b, 0, none⟩)] w fun e w' => e = .returned (.int .i64 d) ∧ w = w' := by
  obtain ⟨⟨_, _, v, h, _⟩, _⟩ := h
  have h1 := h.get 0 (u := .int .i64 d) rfl
  clear h
  go_enter Try.func16, Try.ntmps16
  go_wp2
  go_ret
  exact ⟨rfl, rfl⟩

set_option maxHeartbeats 400000 in
theorem oover_any (h : ONew 61 w0 w G b (opre d o) l) :
    Calls Try.prog 15 #[.pointer (some ⟨b, 0, none⟩)] w fun e w' => e = .returned (.bool o) ∧ w = w' := by
  obtain ⟨⟨_, _, v, h, _⟩, _⟩ := h
  have h1 := h.get 1 (u := .bool o) rfl
  clear h
  go_enter Try.func15, Try.ntmps15
  go_wp2
  go_ret
  exact ⟨rfl, rfl⟩

set_option maxHeartbeats 400000 in
theorem owaits_any (h : ONew 61 w0 w G b (opre d o) l) (hn : l.length ≤ 1000) :
    Calls Try.prog 26 #[.pointer (some ⟨b, 0, none⟩)] w fun e w' => ∃ a n, e = .returned (.slice a l.length n) ∧ ReadI w' (.slice a l.length n) l ∧ ONew 61 w0 w' G b (opre d o) l ∧ Keep (fun _ => False) w w' := by
  have HH := hid h
  obtain ⟨⟨_, _, v, h, _⟩, _⟩ := h
  have h1 : w.cell? ⟨b, 2, none⟩ = some v := h.list
  have H := hid h.own
  clear h
  go_enter Try.func26, Try.ntmps26
  go_wp2_with fail
  refine (clone_any H.out (by omega)).mono ?_
  rintro _ w1 ⟨v1, rfl, o1, f1, k1⟩
  obtain ⟨a, n, rfl⟩ := o1.form
  have R := hid o1.reads
  have K1 := hid k1
  have hle := own_cap o1
  clear o1 f1 k1
  go_wp2_with fail
  refine (clip_any a l.length n hle).mono ?_
  rintro _ w2 ⟨rfl, rfl⟩
  go_wp2
  go_ret
  exact ⟨_, _, rfl, R.out.recap, HH.out.keep K1.out (fun _ h => h.elim), K1.out⟩

/-- What a Begin answers, and what is then. -/
def beg (d : Int) (o : Bool) (l : List Int) (t : Int) : Bool × Int × Int × List Int :=
  if t < 1 then (false, 1, d, l) else if o then (false, 0, d, l) else if d = t ∨ t ∈ l then (false, 11, d, l) else if d = 0 then (true, 0, t, l) else (false, 14, d, l ++ [t])

set_option maxHeartbeats 1000000 in
theorem obegin_any (t : Int) (h : ONew 61 w0 w G b (opre d o) l) (hn : l.length ≤ 1000) {r : Bool} {e d' : Int} {l' : List Int} (hb : beg d o l t = (r, e, d', l')) :
    Calls Try.prog 14 #[.pointer (some ⟨b, 0, none⟩), .int .i64 t] w fun en w' => en = .returned (.tuple #[.bool r, .int .i64 e]) ∧ StepO 61 w0 G w w' b (opre d' o) l' := by
  have HH := hid h
  obtain ⟨⟨hGb, hG, v, h, hGv⟩, _⟩ := h
  have h0 := h.get 0 (u := .int .i64 d) rfl
  have h1 := h.get 1 (u := .bool o) rfl
  have h2 : w.cell? ⟨b, 2, none⟩ = some v := h.list
  have hf0 := h.fro 0
  have H := hid h
  obtain ⟨a0, n0, hv⟩ := h.own.form
  have HV := hid hv
  rw [hv] at h2
  clear h hv
  have same : Hid (StepO 61 w0 G w w b (opre d o) l) := HH.out.on HH.out.1.after
  by_cases ht : t < 1
  · obtain ⟨rfl, rfl, rfl, rfl⟩ : false = r ∧ 1 = e ∧ d = d' ∧ l = l' := by simpa [beg, ht] using hb
    clear hb
    go_enter Try.func14, Try.ntmps14
    go_wp2
    go_ret2
    exact ⟨rfl, same.out⟩
  cases o
  case true =>
    obtain ⟨rfl, rfl, rfl, rfl⟩ : false = r ∧ 0 = e ∧ d = d' ∧ l = l' := by simpa [beg, ht] using hb
    clear hb
    go_enter Try.func14, Try.ntmps14
    go_wp2
    go_ret2
    exact ⟨rfl, same.out⟩
  by_cases hdt : d = t
  · obtain ⟨rfl, rfl, rfl, rfl⟩ : false = r ∧ 11 = e ∧ d = d' ∧ l = l' := by simpa [beg, ht, hdt] using hb
    have hd1 : (d == t) = true := by simp [hdt]
    clear hb hdt
    go_enter Try.func14, Try.ntmps14
    go_wp2
    go_ret2
    exact ⟨rfl, same.out⟩
  have hd1 : (d == t) = false := by simp [hdt]
  by_cases hm : t ∈ l
  · obtain ⟨rfl, rfl, rfl, rfl⟩ : false = r ∧ 11 = e ∧ d = d' ∧ l = l' := by simpa [beg, ht, hdt, hm] using hb
    have hd : decide (t ∈ l) = true := decide_eq_true hm
    clear hb hdt hm
    go_enter Try.func14, Try.ntmps14
    go_wp2_with fail
    refine (contains_any t (l := l) (v := .slice a0 l.length n0) (by rw [← HV.out]; exact H.out.own.reads)).mono ?_
    rintro _ _ ⟨rfl, rfl⟩
    rw [hd]
    go_wp2
    go_ret2
    exact ⟨rfl, same.out⟩
  have hd : decide (t ∈ l) = false := decide_eq_false hm
  by_cases hd0 : d = 0
  · obtain ⟨rfl, rfl, rfl, rfl⟩ : true = r ∧ 0 = e ∧ t = d' ∧ l = l' := by simpa [beg, ht, (hd0 ▸ hdt : ¬ 0 = t), hm, hd0] using hb
    have hz : (d == 0) = true := by simp [hd0]
    have H1 := hid (H.out.setPre 0 (by simp [opre]) (.int .i64 t))
    clear hb hdt hm hd0
    go_enter Try.func14, Try.ntmps14
    go_wp2_with fail
    refine (contains_any t (l := l) (v := .slice a0 l.length n0) (by rw [← HV.out]; exact H.out.own.reads)).mono ?_
    rintro _ _ ⟨rfl, rfl⟩
    rw [hd]
    go_wp2
    go_ret2
    exact ⟨rfl, HH.out.on (AfterO.mk (Keep.refl _ _) hGb _ H1.out fun k hk => .inl (hGv k hk))⟩
  obtain ⟨rfl, rfl, rfl, rfl⟩ : false = r ∧ 14 = e ∧ d = d' ∧ l ++ [t] = l' := by simpa [beg, ht, hdt, hm, hd0] using hb
  have hz : (d == 0) = false := by simp [hd0]
  clear hb hdt hm hd0
  go_enter Try.func14, Try.ntmps14
  go_wp2_with fail
  refine (contains_any t (l := l) (v := .slice a0 l.length n0) (by rw [← HV.out]; exact H.out.own.reads)).mono ?_
  rintro _ _ ⟨rfl, rfl⟩
  rw [hd]
  have K0 : Keep (fun _ => False) w (w.alloc (.cells #[.int .i64 t] 3)) := (Keep.refl _ _).alloc _
  have hown := H.out.own.keep K0 (fun _ _ h => h)
  rw [HV.out] at hown
  have hsrc := one_srcI w t
  go_wp2_with (at_builtin; refine wpList_plain rfl (fun K hK => wp_append_ints _ (.tmp 47) (.tmp 49) rfl (.slice a0 l.length n0) l rfl hown _ 1 _ rfl hsrc (by omega) ?_))
  intro v1 w1 o1 f1 k1
  obtain ⟨a1, n1, hv1⟩ := o1.form
  generalize (l ++ [t]).length = m1 at hv1
  subst hv1
  refine hK _ _ ?_
  clear hK K
  have k2 : Keep (fun k => v.ownBlock = some k) w w1 := (K0.mono fun _ _ h => h.elim).trans (by rw [HV.out]; exact k1)
  have hr := (k2.block b H.out.lt H.out.ne).trans H.out.row
  have hne : (Value.slice a1 m1 n1).ownBlock ≠ some b := fun e => by
    rcases f1 b e with h | h
    · exact H.out.ne (by rw [HV.out]; exact h)
    · have := H.out.lt; omega
  have H1 := hid (ObjAt.setList hr o1 hne)
  have h1 : w1.cell? ⟨b, 2, none⟩ = some v := by rw [cell_of_row w1 b 2 _ _ _ hr]; rfl
  have hf : w1.frozen? ⟨b, 2, none⟩ = false := by simp [World.frozen?, hr]
  have HF : Hid (∀ k, (Value.slice a1 m1 n1).ownBlock = some k → G k ∨ w.heap.size ≤ k) := fun k hk => (f1 k hk).elim (fun h => .inl (hGv k (by rw [HV.out]; exact h))) (fun h => .inr (by omega))
  have HK := hid (k2.mono fun k _ e => hGv k e)
  clear hne f1 k1 k2 hr o1 hsrc hown K0
  go_wp2
  go_ret2
  exact ⟨rfl, HH.out.on (AfterO.mk HK.out hGb _ H1.out HF.out)⟩

/-- What a Done answers, and what is then. -/
def don (d : Int) (o : Bool) (l : List Int) (t : Int) : Int × Int × Bool × List Int × List Int :=
  if t < 1 then (1, d, o, [], l) else if d ≠ t then (11, d, o, [], l) else (0, 0, true, l, [])

set_option maxHeartbeats 1000000 in
theorem odone_any (t : Int) (h : ONew 61 w0 w G b (opre d o) l) {e d' : Int} {o' : Bool} {q l' : List Int} (hb : don d o l t = (e, d', o', q, l')) :
    Calls Try.prog 13 #[.pointer (some ⟨b, 0, none⟩), .int .i64 t] w fun en w' => ∃ a m, en = .returned (.tuple #[.slice a q.length m, .int .i64 e]) ∧ OutO 61 w0 G w w' b (opre d' o') l' a m q := by
  have HH := hid h
  obtain ⟨⟨hGb, hG, v, h, hGv⟩, hlow, hkeep⟩ := h
  have h0 := h.get 0 (u := .int .i64 d) rfl
  have h1 := h.get 1 (u := .bool o) rfl
  have h2 : w.cell? ⟨b, 2, none⟩ = some v := h.list
  have hf0 := h.fro 0
  have hf1 := h.fro 1
  have hf2 := h.fro 2
  have H := hid h
  obtain ⟨a0, n0, hv⟩ := h.own.form
  have hcap : l.length ≤ n0 := own_cap (w := w) (l := l) (a := a0) (by rw [← hv]; exact h.own)
  have HV := hid hv
  rw [hv] at h2
  have HL := hid hlow
  have HK := hid hkeep
  clear h hv hlow hkeep
  by_cases ht : t < 1
  · obtain ⟨rfl, rfl, rfl, rfl, rfl⟩ : 1 = e ∧ d = d' ∧ o = o' ∧ [] = q ∧ l = l' := by simpa [don, ht] using hb
    clear hb
    go_enter Try.func13, Try.ntmps13
    go_wp2
    go_ret2
    exact ⟨none, 0, rfl, .inl ⟨_, _, rfl, rfl⟩, Keep.refl _ _, G, HH.out, fun _ h => .inl h, fun k hk => by simp [Value.ownBlock] at hk⟩
  by_cases hdt : d = t
  · obtain ⟨rfl, rfl, rfl, rfl, rfl⟩ : 0 = e ∧ 0 = d' ∧ true = o' ∧ l = q ∧ [] = l' := by simpa [don, ht, hdt] using hb
    have hd1 : (d != t) = false := by simp [hdt]
    clear hb hdt
    go_enter Try.func13, Try.ntmps13
    have H1 := (H.out.setPre 0 (by simp [opre]) (.int .i64 0)).setPre 1 (by simp [opre]) (.bool true)
    have H2 : Hid (ObjAt 61 (((w.setCell ⟨b, 0, none⟩ (.int .i64 0)).setCell ⟨b, 1, none⟩ (.bool true)).setCell ⟨b, 2, none⟩ (.slice none 0 0)) b (opre 0 true) (.slice none 0 0) []) :=
      hid (ObjAt.setList (pre := opre 0 true) H1.row (OwnI.nil _) (by simp [Value.ownBlock]))
    have K2 : Keep (fun k => k = b) w (((w.setCell ⟨b, 0, none⟩ (.int .i64 0)).setCell ⟨b, 1, none⟩ (.bool true)).setCell ⟨b, 2, none⟩ (.slice none 0 0)) := (((Keep.refl _ _).setOwn _).setOwn _).setOwn _
    have R2 := hid (H.out.own.keep K2 (fun k hk e => H.out.ne (e ▸ hk))).reads
    have K3 := hid K2
    clear H1 K2
    go_wp2_with fail
    refine (clip_any a0 l.length n0 hcap).mono ?_
    rintro _ _ ⟨rfl, rfl⟩
    go_wp2
    go_ret2
    refine ⟨a0, l.length, rfl, ReadI.recap (by rw [← HV.out]; exact R2.out), K3.out.mono fun k _ e => e ▸ hGb, fun k => k = b, ⟨⟨rfl, fun k hk => hk ▸ H2.out.lt, _, H2.out, fun k hk => by simp [Value.ownBlock] at hk⟩, fun k hk => hk ▸ HL.out b hGb, HK.out.then K3.out fun k hk => .inr (hk ▸ HL.out b hGb)⟩, fun k hk => .inl (hk ▸ hGb), fun k hk => ?_⟩
    have hk' : v.ownBlock = some k := by rw [HV.out]; cases a0 <;> exact hk
    exact ⟨.inl (hGv k hk'), Nat.lt_of_lt_of_le (hG k (hGv k hk')) K3.out.size, fun e => H.out.ne (e ▸ hk')⟩
  · obtain ⟨rfl, rfl, rfl, rfl, rfl⟩ : 11 = e ∧ d = d' ∧ o = o' ∧ [] = q ∧ l = l' := by simpa [don, ht, hdt] using hb
    have hd1 : (d != t) = true := by simp [hdt]
    clear hb
    go_enter Try.func13, Try.ntmps13
    go_wp2
    go_ret2
    exact ⟨none, 0, rfl, .inl ⟨_, _, rfl, rfl⟩, Keep.refl _ _, G, HH.out, fun _ h => .inl h, fun k hk => by simp [Value.ownBlock] at hk⟩
end
end Go.Proofs.Ytacogkmnmeekfaa
