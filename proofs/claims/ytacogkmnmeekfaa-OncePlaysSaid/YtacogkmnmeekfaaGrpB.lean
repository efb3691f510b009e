/- The walks of package group: Wait, Drop, Add. -/
import Derived.Test.YtacogkmnmeekfaaGrpA
namespace Go.Proofs.Ytacogkmnmeekfaa
open Go Go.RowKit

/-- What a Wait answers. -/
def waitE (c : Int) (l : List Int) (t : Int) : Int := if t < 1 then 1 else if t ∈ l then 11 else if c = 0 then 0 else 14
def waitL (c : Int) (l : List Int) (t : Int) : List Int := if t < 1 ∨ t ∈ l ∨ c = 0 then l else l ++ [t]

theorem waitE_lo {c t : Int} {l : List Int} (h : t < 1) : waitE c l t = 1 := by simp [waitE, h]
theorem waitL_lo {c t : Int} {l : List Int} (h : t < 1) : waitL c l t = l := by simp [waitL, h]
theorem waitE_in {c t : Int} {l : List Int} (h : 1 ≤ t) (h1 : t ∈ l) : waitE c l t = 11 := by
  have h : ¬ t < 1 := by omega
  simp [waitE, h, h1]
theorem waitL_in {c t : Int} {l : List Int} (h1 : t ∈ l) : waitL c l t = l := by simp [waitL, h1]
theorem waitE_no {c t : Int} {l : List Int} (h : 1 ≤ t) (h1 : t ∉ l) (h2 : c = 0) : waitE c l t = 0 := by
  have h : ¬ t < 1 := by omega
  simp [waitE, h, h1, h2]
theorem waitL_no {c t : Int} {l : List Int} (h2 : c = 0) : waitL c l t = l := by simp [waitL, h2]
theorem waitE_on {c t : Int} {l : List Int} (h : 1 ≤ t) (h1 : t ∉ l) (h2 : ¬ c = 0) : waitE c l t = 14 := by
  have h : ¬ t < 1 := by omega
  simp [waitE, h, h1, h2]
theorem waitL_on {c t : Int} {l : List Int} (h : 1 ≤ t) (h1 : t ∉ l) (h2 : ¬ c = 0) : waitL c l t = l ++ [t] := by
  have h : ¬ t < 1 := by omega
  simp [waitL, h, h1, h2]

/-- What a call on a Group leaves: its own blocks, or new ones. -/
def After (G : Nat → Prop) (w w' : World) (b : Nat) (c : Int) (l : List Int) : Prop :=
  ∃ G', IsGrp w' G' b c l ∧ (∀ k, G' k → G k ∨ w.heap.size ≤ k) ∧ Keep G w w'

theorem IsGrp.after {G : Nat → Prop} {w : World} {b : Nat} {c : Int} {l : List Int} (h : IsGrp w G b c l) : After G w w b c l := ⟨G, h, fun _ hk => .inl hk, Keep.refl _ _⟩

set_option maxHeartbeats 1000000 in
theorem gwait_any {b : Nat} {G : Nat → Prop} {c : Int} {l : List Int} {w : World} (t : Int) (h : IsGrp w G b c l) (hn : l.length ≤ 1000) :
    Calls Try.prog 20 #[.pointer (some ⟨b, 0, none⟩), .int .i64 t] w fun e w' => e = .returned (.int .i64 (waitE c l t)) ∧ After G w w' b c (waitL c l t) := by
  have HH := hid h
  obtain ⟨hGb, hG, v, h, hGv⟩ := h
  have h1 := h.c1
  have h2 := h.c0
  have hf := h.fro 1
  have H := hid h
  have hlo := h.lo
  have hhi := h.hi
  obtain ⟨a0, n0, hv⟩ := h.own.form
  rw [hv] at h1
  have HV := hid hv
  clear h hv
  by_cases ht : t < 1
  · have E := hid (waitE_lo (c := c) (l := l) ht)
    have L := hid (waitL_lo (c := c) (l := l) ht)
    go_enter Try.func20, Try.ntmps20
    go_wp2
    go_ret
    exact ⟨by rw [E.out]; rfl, by rw [L.out]; exact HH.out.after⟩
  go_enter Try.func20, Try.ntmps20
  go_wp2_with fail
  refine (contains_any t (l := l) (v := .slice a0 l.length n0) (by rw [← HV.out]; exact H.out.own.reads)).mono ?_
  rintro _ _ ⟨rfl, rfl⟩
  by_cases hm : t ∈ l
  · have E := hid (waitE_in (c := c) ht hm)
    have L := hid (waitL_in (c := c) hm)
    have hd : decide (t ∈ l) = true := decide_eq_true hm
    rw [hd]
    clear hm hd
    go_wp2
    go_ret
    exact ⟨by rw [E.out]; rfl, by rw [L.out]; exact HH.out.after⟩
  have hd : decide (t ∈ l) = false := decide_eq_false hm
  rw [hd]
  have HM := hid hm
  clear hm hd
  by_cases hc : c = 0
  · have E := hid (waitE_no (c := c) ht HM.out hc)
    have L := hid (waitL_no (c := c) (l := l) (t := t) hc)
    have hc1 : (c == 0) = true := by simp [hc]
    clear hc
    go_wp2
    go_ret
    exact ⟨by rw [E.out]; rfl, by rw [L.out]; exact HH.out.after⟩
  have E := hid (waitE_on (c := c) ht HM.out hc)
  have L := hid (waitL_on (c := c) ht HM.out hc)
  have hc1 : (c == 0) = false := by simp [hc]
  clear hc
  have K0 : Keep (fun _ => False) w (w.alloc (.cells #[.int .i64 t] 3)) := (Keep.refl _ _).alloc _
  have hown := H.out.own.keep K0 (fun _ _ h => h)
  rw [HV.out] at hown
  have hsrc := one_srcI w t
  go_wp2_with (at_builtin; refine wpList_plain rfl (fun K hK => wp_append_ints _ (.tmp 29) (.tmp 31) rfl (.slice a0 l.length n0) l rfl hown _ 1 _ rfl hsrc (by omega) ?_))
  intro v1 w1 o1 f1 k1
  obtain ⟨a1, n1, hv1⟩ := o1.form
  generalize (l ++ [t]).length = m1 at hv1
  subst hv1
  refine hK _ _ ?_
  clear hK K
  have k2 : Keep (fun k => v.ownBlock = some k) w w1 := (K0.mono fun _ _ h => h.elim).trans (by rw [HV.out]; exact k1)
  have hr := (k2.block b H.out.lt H.out.ne).trans H.out.row
  have hne : (Value.slice a1 m1 n1).ownBlock ≠ some b := fun e => by
    rcases f1 b e with h | h
    · exact H.out.ne (by rw [HV.out]; exact h)
    · have := H.out.lt; omega
  have G1 := GrpAt.list hr hlo hhi o1 hne
  have hf := G1.fro 1
  have h1 : w1.cell? ⟨b, 1, none⟩ = some v := by rw [cell_of_row w1 b 1 _ _ _ hr]; rfl
  have hf : w1.frozen? ⟨b, 1, none⟩ = false := by simp [World.frozen?, hr]
  have HG := hid G1
  have HF : Hid (∀ k, (Value.slice a1 m1 n1).ownBlock = some k → G k ∨ w.heap.size ≤ k) := fun k hk => (f1 k hk).elim (fun h => .inl (hGv k (by rw [HV.out]; exact h))) (fun h => .inr (by omega))
  have HK := hid (k2.mono fun k _ e => hGv k e)
  clear G1 hne f1 k1 k2 hr o1 hsrc hown K0
  go_wp2
  go_ret
  rw [E.out, L.out]
  refine ⟨rfl, _, IsGrp.of HG.out, fun k hk => ?_, HK.out.then (Keep.setOwn (Keep.refl _ _) _) fun k hk => .inl (hk ▸ hGb)⟩
  rcases hk with rfl | hk
  · exact .inl hGb
  · exact HF.out k hk

theorem dropT_len (l : List Int) (t : Int) : (dropT l t).length ≤ l.length := by
  unfold dropT; split
  · exact List.length_eraseIdx_le _ _
  · exact Nat.le_refl _

set_option maxHeartbeats 1000000 in
theorem gdrop_any {b : Nat} {G : Nat → Prop} {c : Int} {l : List Int} {w : World} (t : Int) (h : IsGrp w G b c l) (hn : l.length ≤ 1000) :
    Calls Try.prog 32 #[.pointer (some ⟨b, 0, none⟩), .int .i64 t] w fun e w' => e = .returned (.bool (decide (t ∈ l))) ∧ After G w w' b c (dropT l t) := by
  have HH := hid h
  obtain ⟨hGb, hG, v, h, hGv⟩ := h
  have h1 := h.c1
  have H := hid h
  have hlo := h.lo
  have hhi := h.hi
  clear h
  go_enter Try.func32, Try.ntmps32
  go_wp2_with fail
  refine (index_any t H.out.own.reads).mono ?_
  rintro _ _ ⟨rfl, rfl⟩
  by_cases hm : t ∈ l
  · have hi : l.idxOf t < l.length := List.idxOf_lt_length_iff.2 hm
    have D := hid (dropT_in hm)
    have hd : Hid (decide (t ∈ l) = true) := decide_eq_true hm
    rw [idx_in hm]
    clear hm
    generalize l.idxOf t = i at hi D ⊢
    have hi' : (i : Int) ≤ 1000 := by omega
    have hi0 : (0 : Int) ≤ (i : Int) := by omega
    go_wp2_with fail
    refine (delete_any i _ _ rfl rfl hi H.out.own).mono ?_
    rintro _ w1 ⟨v1, rfl, o1, f1, k1⟩
    obtain ⟨a1, n1, hv1⟩ := o1.form
    generalize (l.eraseIdx i).length = m1 at hv1
    subst hv1
    have hr := (k1.block b H.out.lt H.out.ne).trans H.out.row
    have hne : (Value.slice a1 m1 n1).ownBlock ≠ some b := fun e => H.out.ne (by rw [← f1]; exact e)
    have G1 := GrpAt.list hr hlo hhi o1 hne
    have h1 : w1.cell? ⟨b, 1, none⟩ = some v := by rw [cell_of_row w1 b 1 _ _ _ hr]; rfl
    have hf : w1.frozen? ⟨b, 1, none⟩ = false := by simp [World.frozen?, hr]
    have HG := hid G1
    have HF : Hid (∀ k, (Value.slice a1 m1 n1).ownBlock = some k → G k ∨ w.heap.size ≤ k) := fun k hk => .inl (hGv k (by rw [← f1]; exact hk))
    have HK := hid (k1.mono fun k _ e => hGv k e)
    clear G1 hne f1 k1 hr o1
    go_wp2
    go_ret
    rw [hd.out, D.out]
    refine ⟨rfl, _, IsGrp.of HG.out, fun k hk => ?_, HK.out.then (Keep.setOwn (Keep.refl _ _) _) fun k hk => .inl (hk ▸ hGb)⟩
    rcases hk with rfl | hk
    · exact .inl hGb
    · exact HF.out k hk
  · have D := hid (dropT_no hm)
    have hd : Hid (decide (t ∈ l) = false) := decide_eq_false hm
    rw [idx_out hm]
    clear hm
    go_wp2
    go_ret
    rw [hd.out, D.out]
    exact ⟨rfl, HH.out.after⟩

/-- What an Add answers. -/
def addE (c : Int) (n : Int) : Int := if n < -c then 11 else if n > 1048576 - c then 13 else 0
def addC (c : Int) (n : Int) : Int := if n < -c then c else if n > 1048576 - c then c else c + n
def addO (c : Int) (l : List Int) (n : Int) : List Int := if n = -c then l else []
def addL (c : Int) (l : List Int) (n : Int) : List Int := if n = -c then [] else l

set_option maxHeartbeats 1000000 in
theorem gadd_any {b : Nat} {G : Nat → Prop} {c : Int} {l : List Int} {w : World} (n : Int) (h : IsGrp w G b c l) :
    Calls Try.prog 19 #[.pointer (some ⟨b, 0, none⟩), .int .i64 n] w fun e w' => ∃ v', e = .returned (.tuple #[v', .int .i64 (addE c n)]) ∧ ReadI w' v' (addO c l n) ∧ Keep G w w' ∧
      ∃ G', IsGrp w' G' b (addC c n) (addL c l n) ∧ (∀ k, G' k → G k) ∧ ∀ k, v'.ownBlock = some k → G k ∧ ¬ G' k := by
  have HH := hid h
  obtain ⟨hGb, hG, v, h, hGv⟩ := h
  have h1 := h.c0
  have h2 := h.c1
  have hf := h.fro 0
  have hf2 := h.fro 1
  have H := hid h
  have hlo := h.lo
  have hhi := h.hi
  clear h
  by_cases ha : n < -c
  · have E : Hid (addE c n = 11) := by unfold addE; rw [if_pos ha]; exact rfl
    have C : Hid (addC c n = c) := by unfold addC; rw [if_pos ha]; exact rfl
    have O : Hid (addO c l n = []) := by unfold addO; rw [if_neg (by omega)]; exact rfl
    have L : Hid (addL c l n = l) := by unfold addL; rw [if_neg (by omega)]; exact rfl
    go_enter Try.func19, Try.ntmps19
    go_wp2
    go_ret2
    rw [E.out, C.out, O.out, L.out]
    exact ⟨_, rfl, .inl ⟨_, _, rfl, rfl⟩, Keep.refl _ _, G, HH.out, fun k h => h, fun k hk => by simp [Value.ownBlock] at hk⟩
  by_cases hb : n > 1048576 - c
  · have E : Hid (addE c n = 13) := by unfold addE; rw [if_neg ha, if_pos hb]; exact rfl
    have C : Hid (addC c n = c) := by unfold addC; rw [if_neg ha, if_pos hb]; exact rfl
    have O : Hid (addO c l n = []) := by unfold addO; rw [if_neg (by omega)]; exact rfl
    have L : Hid (addL c l n = l) := by unfold addL; rw [if_neg (by omega)]; exact rfl
    go_enter Try.func19, Try.ntmps19
    go_wp2
    go_ret2
    rw [E.out, C.out, O.out, L.out]
    exact ⟨_, rfl, .inl ⟨_, _, rfl, rfl⟩, Keep.refl _ _, G, HH.out, fun k h => h, fun k hk => by simp [Value.ownBlock] at hk⟩
  have E : Hid (addE c n = 0) := by unfold addE; rw [if_neg ha, if_neg hb]; exact rfl
  have C : Hid (addC c n = c + n) := by unfold addC; rw [if_neg ha, if_neg hb]; exact rfl
  have hs0 : 0 ≤ c + n := by omega
  have hs1 : c + n ≤ 1048576 := by omega
  have G1 := hid (H.out.count (c + n) hs0 hs1)
  have K1 : Keep (fun k => k = b) w (w.setCell ⟨b, 0, none⟩ (.int .i64 (c + n))) := (Keep.refl _ _).setOwn _
  have K1' := hid K1
  clear K1
  by_cases hz : c + n > 0
  · have O : Hid (addO c l n = []) := by unfold addO; rw [if_neg (by omega)]; exact rfl
    have L : Hid (addL c l n = l) := by unfold addL; rw [if_neg (by omega)]; exact rfl
    go_enter Try.func19, Try.ntmps19
    go_wp2
    go_ret2
    rw [E.out, C.out, O.out, L.out]
    exact ⟨_, rfl, .inl ⟨_, _, rfl, rfl⟩, K1'.out.mono fun k _ h => h ▸ hGb, _, IsGrp.of G1.out, fun k hk => hk.elim (fun h => h ▸ hGb) (fun h => hGv k h), fun k hk => by simp [Value.ownBlock] at hk⟩
  · have O : Hid (addO c l n = l) := by unfold addO; rw [if_pos (by omega)]; exact rfl
    have L : Hid (addL c l n = []) := by unfold addL; rw [if_pos (by omega)]; exact rfl
    have H1 := G1.out.c1
    have f1 := G1.out.fro 1
    have G2 : Hid (GrpAt ((w.setCell ⟨b, 0, none⟩ (.int .i64 (c + n))).setCell ⟨b, 1, none⟩ (.slice none 0 0)) b (.slice none 0 0) (c + n) []) := hid (GrpAt.list G1.out.row hs0 hs1 (OwnI.nil _) (by simp [Value.ownBlock]))
    have R2 : Hid (ReadI ((w.setCell ⟨b, 0, none⟩ (.int .i64 (c + n))).setCell ⟨b, 1, none⟩ (.slice none 0 0)) v l) :=
      hid ((G1.out.own.keep (F := fun k => k = b) (Keep.setOwn (Keep.refl _ _) _) (fun k hk e => H.out.ne (e ▸ hk))).reads)
    have K2 := hid (K1'.out.setOwn (o := 1) (.slice none 0 0))
    obtain ⟨a0, n0, hv⟩ := H.out.own.form
    have hcap : l.length ≤ n0 := own_cap (w := w) (l := l) (a := a0) (by rw [← hv]; exact H.out.own)
    have HV := hid hv
    rw [hv] at h2 H1
    clear hv
    go_enter Try.func19, Try.ntmps19
    go_wp2_with fail
    refine (clip_any a0 l.length n0 hcap).mono ?_
    rintro _ _ ⟨rfl, rfl⟩
    go_wp2
    go_ret2
    rw [E.out, C.out, O.out, L.out]
    refine ⟨_, rfl, ReadI.recap (by rw [← HV.out]; exact R2.out), K2.out.mono fun k _ h => h ▸ hGb, fun k => k = b, ⟨rfl, fun k hk => hk ▸ G2.out.lt, _, G2.out, fun k hk => by simp [Value.ownBlock] at hk⟩, fun k h => h ▸ hGb, fun k hk => ?_⟩
    have hk' : v.ownBlock = some k := by rw [HV.out]; cases a0 <;> exact hk
    exact ⟨hGv k hk', fun e => H.out.ne (e ▸ hk')⟩

end Go.Proofs.Ytacogkmnmeekfaa
