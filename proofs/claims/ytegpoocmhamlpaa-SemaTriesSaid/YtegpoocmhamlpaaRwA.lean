/- The walks of package rw. -/
import Derived.Test.YtegpoocmhamlpaaObj
import Derived.Test.YtegpoocmhamlpaaMob
namespace Go.Proofs.Ytegpoocmhamlpaa
open Go Go.RowKit

/-- Who writes, who reads, who waits to write, and who to read. -/
structure RS where
  d : Int
  r : List Int
  w : List Int
  q : List Int
deriving DecidableEq

def rcs (S : RS) : List Cel := [.sc (.int .i64 S.d), .ci S.r, .ci S.w, .ci S.q]

section
variable {T : Nat} {w w' w0 : World} {G : Nat → Prop} {b : Nat} {cs : List Cel} {vs : List Value}

/-- A list is turned, and its slice is stored. -/
theorem MNew.stored (h : MNew T w0 w G b cs) (hM : MobAt T w b cs vs) (hGb : G b) (hvs : ∀ v ∈ vs, ∀ k, v.ownBlock = some k → G k) {i : Nat} {v v' : Value} {l : List Int} (hv : vs[i]? = some v)
    (hK : Keep (fun k => v.ownBlock = some k) w w') (o : OwnI w' v' l) (f : ∀ k, v'.ownBlock = some k → v.ownBlock = some k ∨ w.heap.size ≤ k) : StepM T w0 G w (w'.setCell ⟨b, i, none⟩ v') b (cs.set i (.ci l)) := by
  have hne : v'.ownBlock ≠ some b := fun e => by
    obtain ⟨c, _, hf⟩ := hM.mob.at hv
    rcases f b e with h1 | h1
    · exact hf.ne h1
    · have := hM.lt; omega
  have M2 := hM.setList (c' := .ci l) hv hK ⟨o, hne⟩ f
  have hGv : ∀ k, v.ownBlock = some k → G k := hvs v (List.mem_of_getElem? hv)
  refine h.on (AfterM.stored M2 ((hK.mono fun k _ e => hGv k e).setCell (.inl hGb) _) hGb fun u hu k hk => ?_)
  rcases List.mem_or_eq_of_mem_set hu with hu | rfl
  · exact .inl (hvs u hu k hk)
  · exact (f k hk).elim (fun e => .inl (hGv k e)) .inr

theorem MobAt.sp (hM : MobAt T w b cs vs) {i : Nat} {v : Value} (hv : vs[i]? = some v) (hK : Keep (fun k => v.ownBlock = some k) w w') : w'.cell? ⟨b, i, none⟩ = some v ∧ w'.frozen? ⟨b, i, none⟩ = false := by
  have hne : ¬ (v.ownBlock = some b) := by
    obtain ⟨c, _, hf⟩ := hM.mob.at hv
    exact hf.ne
  exact ⟨(hK.cell (p := ⟨b, i, none⟩) hM.lt hne).trans (hM.cell hv), (hK.frozen (p := ⟨b, i, none⟩) hM.lt hne).trans (hM.fro i)⟩

/-- A scalar is stored. -/
theorem MNew.scal (h : MNew T w0 w G b cs) {i : Nat} (hi : i < cs.length) (u : Value) (hu : u.ownBlock = none) : StepM T w0 G w (w.setCell ⟨b, i, none⟩ u) b (cs.set i (.sc u)) := by
  have HH := h
  obtain ⟨⟨hGb, _, vs, hM, hvs⟩, _⟩ := h
  refine HH.on (AfterM.stored (hM.setScal hi u hu) ((Keep.refl _ _).setCell (.inl hGb) _) hGb fun x hx k hk => ?_)
  rcases List.mem_or_eq_of_mem_set hx with hx | rfl
  · exact .inl (hvs x hx k hk)
  · rw [hu] at hk; cases hk

theorem MNew.stay (h : MNew T w0 w G b cs) : StepM T w0 G w w b cs := h.on h.1.after
end

/-- An answer: a list that can be read, out of the object's blocks or new ones, and the object stays apart from it. -/
def OutM (T : Nat) (w0 : World) (G : Nat → Prop) (w w' : World) (b : Nat) (cs : List Cel) (a : Option Addr) (m : Nat) (o : List Int) : Prop :=
  ReadI w' (.slice a o.length m) o ∧ Keep G w w' ∧ ∃ G', MNew T w0 w' G' b cs ∧ (∀ k, G' k → G k ∨ w.heap.size ≤ k) ∧ ∀ k, (Value.slice a o.length m).ownBlock = some k → (G k ∨ w.heap.size ≤ k) ∧ k < w'.heap.size ∧ ¬ G' k

theorem OutM.none {T : Nat} {w0 : World} {G : Nat → Prop} {w w' : World} {b : Nat} {cs : List Cel} (h : StepM T w0 G w w' b cs) : OutM T w0 G w w' b cs none 0 [] := by
  obtain ⟨G', i1, i2, i3⟩ := h
  exact ⟨.inl ⟨_, _, rfl, rfl⟩, i3, G', i1, i2, fun k hk => by simp [Value.ownBlock] at hk⟩

theorem OutM.on {T : Nat} {w0 : World} {G G1 : Nat → Prop} {w w1 w' : World} {b : Nat} {cs : List Cel} {a : Option Addr} {m : Nat} {o : List Int} (J : ∀ k, G1 k → G k ∨ w.heap.size ≤ k) (K : Keep G w w1) (h : OutM T w0 G1 w1 w' b cs a m o) : OutM T w0 G w w' b cs a m o := by
  obtain ⟨h1, h2, G', i1, i2, i3⟩ := h
  have up : ∀ k, G1 k ∨ w1.heap.size ≤ k → G k ∨ w.heap.size ≤ k := fun k hk => hk.elim (J k) (fun h => .inr (Nat.le_trans K.size h))
  exact ⟨h1, K.then h2 J, G', i1, fun k hk => up k (i2 k hk), fun k hk => ⟨up k (i3 k hk).1, (i3 k hk).2⟩⟩

set_option maxHeartbeats 400000 in
theorem rnew_any (w : World) :
    Calls Try.prog 25 #[] w fun e w' => e = .returned (.pointer (some ⟨w.heap.size, 0, none⟩)) ∧ ∃ G, MNew 79 w w' G w.heap.size (rcs ⟨0, [], [], []⟩) := by
  have fin : MobAt 79 (w.alloc (.cells #[.int .i64 0, .slice none 0 0, .slice none 0 0, .slice none 0 0] 79)) w.heap.size (rcs ⟨0, [], [], []⟩) [.int .i64 0, .slice none 0 0, .slice none 0 0, .slice none 0 0] := by
    refine ⟨heap_alloc_new w _, rfl, fun i c v hc hv => ?_, fun i j vi vj k hi hj hne hk => ?_⟩
    · match i, hc, hv with
      | 0, hc, hv => cases hc; cases hv; exact ⟨rfl, rfl⟩
      | 1, hc, hv => cases hc; cases hv; exact ⟨OwnI.nil _, by simp [Value.ownBlock]⟩
      | 2, hc, hv => cases hc; cases hv; exact ⟨OwnI.nil _, by simp [Value.ownBlock]⟩
      | 3, hc, hv => cases hc; cases hv; exact ⟨OwnI.nil _, by simp [Value.ownBlock]⟩
    · match i, hi with
      | 0, hi => cases hi; cases hk
      | 1, hi => cases hi; cases hk
      | 2, hi => cases hi; cases hk
      | 3, hi => cases hi; cases hk
  have F := hid fin
  clear fin
  go_enter Try.func25, Try.ntmps25
  go_wp2
  go_ret
  refine ⟨rfl, fun k => k = w.heap.size, ⟨rfl, fun k hk => by subst hk; exact F.out.lt, _, F.out, fun v hv k hk => ?_⟩, fun k hk => Nat.le_of_eq hk.symm, (Keep.refl _ _).alloc _⟩
  simp only [List.mem_cons, List.not_mem_nil, or_false] at hv
  rcases hv with rfl | rfl | rfl | rfl <;> cases hk

section
variable {w0 w : World} {G : Nat → Prop} {b : Nat} {S : RS}

/-- Its cells. -/
theorem MNew.rw (h : MNew 79 w0 w G b (rcs S)) : G b ∧ ∃ vs vR vW vQ, MobAt 79 w b (rcs S) vs ∧ (∀ v ∈ vs, ∀ k, v.ownBlock = some k → G k) ∧ vs[1]? = some vR ∧ vs[2]? = some vW ∧ vs[3]? = some vQ ∧ OwnI w vR S.r ∧ OwnI w vW S.w ∧ OwnI w vQ S.q ∧
    w.cell? ⟨b, 0, none⟩ = some (.int .i64 S.d) ∧ w.cell? ⟨b, 1, none⟩ = some vR ∧ w.cell? ⟨b, 2, none⟩ = some vW ∧ w.cell? ⟨b, 3, none⟩ = some vQ := by
  obtain ⟨⟨hGb, _, vs, hM, hvs⟩, _⟩ := h
  obtain ⟨vR, h1, c1, o1, _⟩ := hM.list 1 (e := 3) (s := 1) (n := S.r.length) (xs := flat1 S.r) rfl
  obtain ⟨vW, h2, c2, o2, _⟩ := hM.list 2 (e := 3) (s := 1) (n := S.w.length) (xs := flat1 S.w) rfl
  obtain ⟨vQ, h3, c3, o3, _⟩ := hM.list 3 (e := 3) (s := 1) (n := S.q.length) (xs := flat1 S.q) rfl
  exact ⟨hGb, vs, vR, vW, vQ, hM, hvs, h1, h2, h3, o1, o2, o3, hM.get 0 rfl, c1, c2, c3⟩

set_option maxHeartbeats 400000 in
theorem rwriter_any (h : MNew 79 w0 w G b (rcs S)) :
    Calls Try.prog 37 #[.pointer (some ⟨b, 0, none⟩)] w fun e w' => e = .returned (.int .i64 S.d) ∧ w = w' := by
  obtain ⟨-, vs, vR, vW, vQ, -, -, -, -, -, -, -, -, c0, -⟩ := h.rw
  clear h
  go_enter Try.func37, Try.ntmps37
  go_wp2
  go_ret
  exact ⟨rfl, rfl⟩

set_option maxHeartbeats 400000 in
theorem rreaders_any (h : MNew 79 w0 w G b (rcs S)) (hn : S.r.length ≤ 1000) :
    Calls Try.prog 32 #[.pointer (some ⟨b, 0, none⟩)] w fun e w' => ∃ a n, e = .returned (.slice a S.r.length n) ∧ ReadI w' (.slice a S.r.length n) S.r ∧ MNew 79 w0 w' G b (rcs S) ∧ Keep (fun _ => False) w w' ∧ ∀ k, (Value.slice a S.r.length n).ownBlock = some k → w.heap.size ≤ k := by
  have HH := hid h
  obtain ⟨-, vs, vR, vW, vQ, -, -, -, -, -, oR, -, -, c0, c1, -⟩ := h.rw
  have H := hid oR
  clear h
  go_enter Try.func32, Try.ntmps32
  go_wp2_with fail
  refine (clone_any H.out (by omega)).mono ?_
  rintro _ w1 ⟨v1, rfl, o1, f1, k1⟩
  obtain ⟨a, n, rfl⟩ := o1.form
  have R := hid o1.reads
  have K1 := hid k1
  have hle := own_cap o1
  have F1 := hid f1
  clear o1 f1 k1
  go_wp2_with fail
  refine (clip_any a S.r.length n hle).mono ?_
  rintro _ w2 ⟨rfl, rfl⟩
  go_wp2
  go_ret
  exact ⟨_, _, rfl, R.out.recap, HH.out.keep K1.out (fun _ h => h.elim), K1.out, fun k hk => F1.out k (by cases a <;> exact hk)⟩

/-- What is wrong with a task that wants it. -/
def rwr (S : RS) (t : Int) : Int := if t < 1 then 1 else if S.d = t ∨ t ∈ S.r ∨ t ∈ S.w ∨ t ∈ S.q then 11 else 0

set_option maxHeartbeats 1000000 in
theorem rwrong_any (t : Int) (h : MNew 79 w0 w G b (rcs S)) :
    Calls Try.prog 46 #[.pointer (some ⟨b, 0, none⟩), .int .i64 t] w fun e w' => e = .returned (.int .i64 (rwr S t)) ∧ w = w' := by
  obtain ⟨-, vs, vR, vW, vQ, -, -, -, -, -, oR, oW, oQ, c0, c1, c2, c3⟩ := h.rw
  have HR := hid oR.reads
  have HW := hid oW.reads
  have HQ := hid oQ.reads
  clear h oR oW oQ
  by_cases ht : t < 1
  · have E : Hid (rwr S t = 1) := hid (by unfold rwr; rw [if_pos ht])
    go_enter Try.func46, Try.ntmps46
    go_wp2
    go_ret
    exact ⟨by rw [E.out]; rfl, rfl⟩
  by_cases hdt : S.d = t
  · have E : Hid (rwr S t = 11) := hid (by unfold rwr; rw [if_neg ht, if_pos (.inl hdt)])
    have hd1 : (S.d == t) = true := by simp [hdt]
    clear hdt
    go_enter Try.func46, Try.ntmps46
    go_wp2
    go_ret
    exact ⟨by rw [E.out]; rfl, rfl⟩
  have hd1 : (S.d == t) = false := by simp [hdt]
  by_cases hm : t ∈ S.r
  · have E : Hid (rwr S t = 11) := hid (by unfold rwr; rw [if_neg ht, if_pos (.inr (.inl hm))])
    have hd : decide (t ∈ S.r) = true := decide_eq_true hm
    clear hm hdt
    go_enter Try.func46, Try.ntmps46
    go_wp2_with fail
    refine (contains_any t HR.out).mono ?_
    rintro _ _ ⟨rfl, rfl⟩
    rw [hd]
    go_wp2
    go_ret
    exact ⟨by rw [E.out]; rfl, rfl⟩
  have hdr : decide (t ∈ S.r) = false := decide_eq_false hm
  by_cases hm2 : t ∈ S.w
  · have E : Hid (rwr S t = 11) := hid (by unfold rwr; rw [if_neg ht, if_pos (.inr (.inr (.inl hm2)))])
    have hd : decide (t ∈ S.w) = true := decide_eq_true hm2
    clear hm hdt hm2
    go_enter Try.func46, Try.ntmps46
    go_wp2_with fail
    refine (contains_any t HR.out).mono ?_
    rintro _ _ ⟨rfl, rfl⟩
    rw [hdr]
    go_wp2_with fail
    refine (contains_any t HW.out).mono ?_
    rintro _ _ ⟨rfl, rfl⟩
    rw [hd]
    go_wp2
    go_ret
    exact ⟨by rw [E.out]; rfl, rfl⟩
  have hdw : decide (t ∈ S.w) = false := decide_eq_false hm2
  by_cases hm3 : t ∈ S.q
  · have E : Hid (rwr S t = 11) := hid (by unfold rwr; rw [if_neg ht, if_pos (.inr (.inr (.inr hm3)))])
    have hd : decide (t ∈ S.q) = true := decide_eq_true hm3
    clear hm hdt hm2 hm3
    go_enter Try.func46, Try.ntmps46
    go_wp2_with fail
    refine (contains_any t HR.out).mono ?_
    rintro _ _ ⟨rfl, rfl⟩
    rw [hdr]
    go_wp2_with fail
    refine (contains_any t HW.out).mono ?_
    rintro _ _ ⟨rfl, rfl⟩
    rw [hdw]
    go_wp2_with fail
    refine (contains_any t HQ.out).mono ?_
    rintro _ _ ⟨rfl, rfl⟩
    rw [hd]
    go_wp2
    go_ret
    exact ⟨by rw [E.out]; rfl, rfl⟩
  have E : Hid (rwr S t = 0) := hid (by unfold rwr; rw [if_neg ht, if_neg (by simp [hdt, hm, hm2, hm3])])
  have hdq : decide (t ∈ S.q) = false := decide_eq_false hm3
  clear hm hdt hm2 hm3
  go_enter Try.func46, Try.ntmps46
  go_wp2_with fail
  refine (contains_any t HR.out).mono ?_
  rintro _ _ ⟨rfl, rfl⟩
  rw [hdr]
  go_wp2_with fail
  refine (contains_any t HW.out).mono ?_
  rintro _ _ ⟨rfl, rfl⟩
  rw [hdw]
  go_wp2_with fail
  refine (contains_any t HQ.out).mono ?_
  rintro _ _ ⟨rfl, rfl⟩
  rw [hdq]
  go_wp2
  go_ret
  exact ⟨by rw [E.out]; rfl, rfl⟩

/-- A task is taken out of a list. -/
theorem rout_any {cs : List Cel} (i : Nat) (t : Int) {l : List Int} (h : MNew 79 w0 w G b cs) (hc : cs[i]? = some (.ci l)) (hn : l.length ≤ 1000) :
    Calls Try.prog 47 #[.pointer (some ⟨b, i, none⟩), .int .i64 t] w fun e w' => e = .returned (.bool (decide (t ∈ l))) ∧ StepM 79 w0 G w w' b (cs.set i (.ci (dropT l t))) := by
  have HH := hid h
  obtain ⟨⟨hGb, _, vs, hM, hvs⟩, _⟩ := h
  obtain ⟨v, hv, h1, hO, hvb⟩ := hM.list i (e := 3) (s := 1) (n := l.length) (xs := flat1 l) hc
  have O : Hid (OwnI w v l) := hid hO
  have M := hid hM
  have GV := hid hvs
  have HV := hid hv
  have HC := hid hc
  clear hM hvs hO hv hc
  go_enter Try.func47, Try.ntmps47
  go_wp2_with fail
  refine (index_any t O.out.reads).mono ?_
  rintro _ _ ⟨rfl, rfl⟩
  by_cases hm : t ∈ l
  · have hi : l.idxOf t < l.length := List.idxOf_lt_length_iff.2 hm
    have D := hid (dropT_in hm)
    have hd : Hid (decide (t ∈ l) = true) := decide_eq_true hm
    rw [idx_in hm]
    clear hm
    generalize l.idxOf t = j at hi D ⊢
    have hi' : (j : Int) ≤ 1000 := by omega
    have hi0 : (0 : Int) ≤ (j : Int) := by omega
    go_wp2_with fail
    refine (delete_any j _ _ rfl rfl hi O.out).mono ?_
    rintro _ w1 ⟨v1, rfl, o1, f1, k1⟩
    have st := HH.out.stored M.out hGb GV.out HV.out k1 o1 (fun k hk => .inl (by rw [← f1]; exact hk))
    obtain ⟨h1, hf⟩ := M.out.sp HV.out k1
    have ST := hid st
    obtain ⟨a1, n1, hv1⟩ := o1.form
    generalize (l.eraseIdx j).length = m1 at hv1
    subst hv1
    clear f1 k1 o1 st
    go_wp2
    go_ret
    rw [hd.out, D.out]
    exact ⟨rfl, ST.out⟩
  · have D := hid (dropT_no hm)
    have hd : Hid (decide (t ∈ l) = false) := decide_eq_false hm
    rw [idx_out hm]
    clear hm
    go_wp2
    go_ret
    rw [hd.out, D.out]
    refine ⟨rfl, ?_⟩
    have e : cs.set i (.ci l) = cs := by
      obtain ⟨hi, he⟩ := List.getElem?_eq_some_iff.1 HC.out
      refine List.ext_getElem (by simp) fun j h1 h2 => ?_
      rw [List.getElem_set]
      split
      · rename_i e; subst e; exact he.symm
      · rfl
    rw [e]
    exact HH.out.stay
end
end Go.Proofs.Ytegpoocmhamlpaa
