/- Layer 12: what hands it on; what waits; the fixed fact; RwNone. -/
import Derived.Test.YtegpoocmhamlpaaRwB
namespace Go.Proofs.Ytegpoocmhamlpaa
open Go Go.RowKit
section
variable {w0 w : World} {G : Nat → Prop} {b : Nat} {S : RS}

/-- What an RUnlock, an Unlock and a Drop answer, and what is there then. -/
def rru (S : RS) (t : Int) : List Int × Int × RS := if t < 1 then ([], 1, S) else if t ∈ S.r then ((rhd { S with r := dropT S.r t }).1, 0, (rhd { S with r := dropT S.r t }).2) else ([], 11, S)
def rwu (S : RS) (t : Int) : List Int × Int × RS := if t < 1 then ([], 1, S) else if S.d = t then ((rhd { S with d := 0 }).1, 0, (rhd { S with d := 0 }).2) else ([], 11, S)
def rdp (S : RS) (t : Int) : List Int × Bool × RS := if t ∈ S.w then ((rhd { S with w := dropT S.w t }).1, true, (rhd { S with w := dropT S.w t }).2) else if t ∈ S.q then ((rhd { S with q := dropT S.q t }).1, true, (rhd { S with q := dropT S.q t }).2) else ([], false, S)

theorem set_idem {cs : List Cel} {i : Nat} {c : Cel} (h : cs[i]? = some c) : cs.set i c = cs := by
  obtain ⟨hi, he⟩ := List.getElem?_eq_some_iff.1 h
  refine List.ext_getElem (by simp) fun j h1 h2 => ?_
  rw [List.getElem_set]
  split
  · rename_i e; subst e; exact he.symm
  · rfl

set_option maxHeartbeats 1000000 in
theorem rrunlock_any (t : Int) (h : MNew 79 w0 w G b (rcs S)) (h1 : S.r.length + S.q.length ≤ 1000) (h2 : S.w.length ≤ 1000) {o : List Int} {e : Int} {S' : RS} (hb : rru S t = (o, e, S')) :
    Calls Try.prog 29 #[.pointer (some ⟨b, 0, none⟩), .int .i64 t] w fun en w' => ∃ a m, en = .returned (.tuple #[.slice a o.length m, .int .i64 e]) ∧ OutM 79 w0 G w w' b (rcs S') a m o := by
  unfold rru at hb
  have HH := hid h
  by_cases ht : t < 1
  · rw [if_pos ht] at hb
    cases hb
    clear h
    go_enter Try.func29, Try.ntmps29
    go_wp2
    go_ret2
    exact ⟨_, _, rfl, OutM.none HH.out.stay⟩
  rw [if_neg ht] at hb
  by_cases hm : t ∈ S.r
  · rw [if_pos hm] at hb
    obtain ⟨o1, S1, hh⟩ : ∃ o1 S1, rhd { S with r := dropT S.r t } = (o1, S1) := ⟨_, _, rfl⟩
    rw [hh] at hb
    cases hb
    have HB := hid hh
    have hd : decide (t ∈ S.r) = true := decide_eq_true hm
    have hle := dropT_len S.r t
    clear hh hm
    go_enter Try.func29, Try.ntmps29
    go_wp2_with fail
    refine (rout_any 1 t HH.out (l := S.r) rfl (by omega)).mono ?_
    rintro _ w1 ⟨rfl, G1, N1, J1, K1⟩
    rw [hd]
    have N1 := hid N1
    have JK := hid (And.intro J1 K1)
    clear h J1 K1 hd
    go_wp2_with fail
    refine (rhand_any (S := { S with r := dropT S.r t }) N1.out (by show (dropT S.r t).length + S.q.length ≤ 1000; omega) h2 HB.out).mono ?_
    rintro _ w2 ⟨a, m, rfl, hO⟩
    have O := hid (OutM.on JK.out.1 JK.out.2 hO)
    clear hO
    go_wp2
    go_ret2
    exact ⟨_, _, rfl, O.out⟩
  · rw [if_neg hm] at hb
    cases hb
    have hd : decide (t ∈ S.r) = false := decide_eq_false hm
    have hdr := hid (dropT_no hm)
    clear hm
    go_enter Try.func29, Try.ntmps29
    go_wp2_with fail
    refine (rout_any 1 t HH.out (l := S.r) rfl (by omega)).mono ?_
    rintro _ w1 ⟨rfl, st⟩
    rw [hd]
    rw [hdr.out, set_idem rfl] at st
    have ST := hid st
    clear h st hd
    go_wp2
    go_ret2
    exact ⟨_, _, rfl, OutM.none ST.out⟩

set_option maxHeartbeats 1000000 in
theorem runlock_any (t : Int) (h : MNew 79 w0 w G b (rcs S)) (h1 : S.r.length + S.q.length ≤ 1000) (h2 : S.w.length ≤ 1000) {o : List Int} {e : Int} {S' : RS} (hb : rwu S t = (o, e, S')) :
    Calls Try.prog 30 #[.pointer (some ⟨b, 0, none⟩), .int .i64 t] w fun en w' => ∃ a m, en = .returned (.tuple #[.slice a o.length m, .int .i64 e]) ∧ OutM 79 w0 G w w' b (rcs S') a m o := by
  unfold rwu at hb
  have HH := hid h
  obtain ⟨-, vs, vR, vW, vQ, hM, -, -, -, -, -, -, -, c0, -⟩ := h.rw
  have hf0 := hM.fro 0
  clear hM
  by_cases ht : t < 1
  · rw [if_pos ht] at hb
    cases hb
    clear h
    go_enter Try.func30, Try.ntmps30
    go_wp2
    go_ret2
    exact ⟨_, _, rfl, OutM.none HH.out.stay⟩
  rw [if_neg ht] at hb
  by_cases hm : S.d = t
  · rw [if_pos hm] at hb
    obtain ⟨o1, S1, hh⟩ : ∃ o1 S1, rhd { S with d := 0 } = (o1, S1) := ⟨_, _, rfl⟩
    rw [hh] at hb
    cases hb
    have HB := hid hh
    have hd : (S.d != t) = false := by simp [hm]
    obtain ⟨G1, N1, J1, K1⟩ : StepM 79 w0 G w (w.setCell ⟨b, 0, none⟩ (.int .i64 0)) b (rcs { S with d := 0 }) := HH.out.scal (i := 0) (by simp [rcs]) (.int .i64 0) rfl
    have N1 := hid N1
    have JK := hid (And.intro J1 K1)
    clear hh hm h J1 K1
    go_enter Try.func30, Try.ntmps30
    go_wp2_with fail
    refine (rhand_any (S := { S with d := 0 }) N1.out h1 h2 HB.out).mono ?_
    rintro _ w2 ⟨a, m, rfl, hO⟩
    have O := hid (OutM.on JK.out.1 JK.out.2 hO)
    clear hO
    go_wp2
    go_ret2
    exact ⟨_, _, rfl, O.out⟩
  · rw [if_neg hm] at hb
    cases hb
    have hd : (S.d != t) = true := by simp [hm]
    clear hm h
    go_enter Try.func30, Try.ntmps30
    go_wp2
    go_ret2
    exact ⟨_, _, rfl, OutM.none HH.out.stay⟩

set_option maxHeartbeats 1000000 in
theorem rdrop_any (t : Int) (h : MNew 79 w0 w G b (rcs S)) (h1 : S.r.length + S.q.length ≤ 1000) (h2 : S.w.length ≤ 1000) {o : List Int} {e : Bool} {S' : RS} (hb : rdp S t = (o, e, S')) :
    Calls Try.prog 33 #[.pointer (some ⟨b, 0, none⟩), .int .i64 t] w fun en w' => ∃ a m, en = .returned (.tuple #[.slice a o.length m, .bool e]) ∧ OutM 79 w0 G w w' b (rcs S') a m o := by
  unfold rdp at hb
  have HH := hid h
  by_cases hm : t ∈ S.w
  · rw [if_pos hm] at hb
    obtain ⟨o1, S1, hh⟩ : ∃ o1 S1, rhd { S with w := dropT S.w t } = (o1, S1) := ⟨_, _, rfl⟩
    rw [hh] at hb
    cases hb
    have HB := hid hh
    have hd : decide (t ∈ S.w) = true := decide_eq_true hm
    have hle := dropT_len S.w t
    clear hh hm
    go_enter Try.func33, Try.ntmps33
    go_wp2_with fail
    refine (rout_any 2 t HH.out (l := S.w) rfl (by omega)).mono ?_
    rintro _ w1 ⟨rfl, G1, N1, J1, K1⟩
    rw [hd]
    have N1 := hid N1
    have JK := hid (And.intro J1 K1)
    clear h J1 K1 hd
    go_wp2_with fail
    refine (rhand_any (S := { S with w := dropT S.w t }) N1.out h1 (by show (dropT S.w t).length ≤ 1000; omega) HB.out).mono ?_
    rintro _ w2 ⟨a, m, rfl, hO⟩
    have O := hid (OutM.on JK.out.1 JK.out.2 hO)
    clear hO
    go_wp2
    go_ret2
    exact ⟨_, _, rfl, O.out⟩
  rw [if_neg hm] at hb
  have hd : decide (t ∈ S.w) = false := decide_eq_false hm
  have hdr := hid (dropT_no hm)
  by_cases hq : t ∈ S.q
  · rw [if_pos hq] at hb
    obtain ⟨o1, S1, hh⟩ : ∃ o1 S1, rhd { S with q := dropT S.q t } = (o1, S1) := ⟨_, _, rfl⟩
    rw [hh] at hb
    cases hb
    have HB := hid hh
    have hd2 : decide (t ∈ S.q) = true := decide_eq_true hq
    have hle := dropT_len S.q t
    clear hh hm hq
    go_enter Try.func33, Try.ntmps33
    go_wp2_with fail
    refine (rout_any 2 t HH.out (l := S.w) rfl (by omega)).mono ?_
    rintro _ w1 ⟨rfl, G1, N1, J1, K1⟩
    rw [hd]
    rw [hdr.out, set_idem rfl] at N1
    have N1 := hid N1
    have JK := hid (And.intro J1 K1)
    clear h J1 K1 hd
    go_wp2_with fail
    refine (rout_any 3 t N1.out (l := S.q) rfl (by omega)).mono ?_
    rintro _ w2 ⟨rfl, G2, N2, J2, K2⟩
    rw [hd2]
    have N2 := hid N2
    have JK2 := hid (And.intro J2 K2)
    clear J2 K2 hd2
    go_wp2_with fail
    refine (rhand_any (S := { S with q := dropT S.q t }) N2.out (by show S.r.length + (dropT S.q t).length ≤ 1000; omega) h2 HB.out).mono ?_
    rintro _ w3 ⟨a, m, rfl, hO⟩
    have O := hid (OutM.on JK.out.1 JK.out.2 (OutM.on JK2.out.1 JK2.out.2 hO))
    clear hO
    go_wp2
    go_ret2
    exact ⟨_, _, rfl, O.out⟩
  · rw [if_neg hq] at hb
    cases hb
    have hd2 : decide (t ∈ S.q) = false := decide_eq_false hq
    have hdr2 := hid (dropT_no hq)
    clear hm hq
    go_enter Try.func33, Try.ntmps33
    go_wp2_with fail
    refine (rout_any 2 t HH.out (l := S.w) rfl (by omega)).mono ?_
    rintro _ w1 ⟨rfl, G1, N1, J1, K1⟩
    rw [hd]
    rw [hdr.out, set_idem rfl] at N1
    have N1 := hid N1
    have JK := hid (And.intro J1 K1)
    clear h J1 K1 hd
    go_wp2_with fail
    refine (rout_any 3 t N1.out (l := S.q) rfl (by omega)).mono ?_
    rintro _ w2 ⟨rfl, st⟩
    rw [hd2]
    rw [hdr2.out, set_idem rfl] at st
    have ST := hid (StepM.trans ⟨N1.out, JK.out.1, JK.out.2⟩ st)
    clear st hd2
    go_wp2
    go_ret2
    exact ⟨_, _, rfl, OutM.none ST.out⟩

set_option maxHeartbeats 1000000 in
theorem rwaits_any (h : MNew 79 w0 w G b (rcs S)) (hw : S.w.length ≤ 1000) (hq : S.q.length ≤ 1000) :
    Calls Try.prog 36 #[.pointer (some ⟨b, 0, none⟩)] w fun e w' => ∃ a n a' n', e = .returned (.tuple #[.slice a S.w.length n, .slice a' S.q.length n']) ∧ ReadI w' (.slice a S.w.length n) S.w ∧ ReadI w' (.slice a' S.q.length n') S.q ∧ MNew 79 w0 w' G b (rcs S) ∧ Keep (fun _ => False) w w' := by
  have HH := hid h
  obtain ⟨-, vs, vR, vW, vQ, hM, -, -, -, -, -, oW, oQ, c0, c1, c2, c3⟩ := h.rw
  have OW := hid oW
  have OQ := hid oQ
  have hb := hM.lt
  clear h hM oW oQ c0 c1
  go_enter Try.func36, Try.ntmps36
  go_wp2_with fail
  refine wp_region_text [0,0,0,0,2,2,0,0,0,0,2,2,0,0] (fun W => W.cell? ⟨b, 2, none⟩ = some vW ∧ W.cell? ⟨b, 3, none⟩ = some vQ) (by kernel_rfl) (by kernel_rfl) ⟨c2, c3⟩ ?_
  repeat (first
    | (refine' wpT_calm (v := _) (by rfl) (fun W hW => ?_) ?_; rotate_left
       · ((try dsimp only at hW); go_simp; first | done | rfl)
       simp only [Act.put, List.setIfInBounds_toArray, List.set_cons_zero, List.set_cons_succ])
    | (refine' wpT_reads (v := _) (by rfl) ?_ ?_; rotate_left
       · (go_simp; first | done | rfl)
       simp only [Act.put, List.setIfInBounds_toArray, List.set_cons_zero, List.set_cons_succ])
    | (refine wpT_skip (by rfl) rfl ?_; simp only [Act.put, List.setIfInBounds_toArray, List.set_cons_zero, List.set_cons_succ])
    | (refine wpT_does (by rfl) (fun K hK => ?_); go_simp; refine hK _ _ ?_ ?_
       · (trivial)
       clear hK K; try simp only [Act.put, List.setIfInBounds_toArray, List.set_cons_zero, List.set_cons_succ])
    | (refine wpT_last (by rfl) (fun K hK => ?_); go_simp; refine hK _ _ ?_; clear hK K)
    | (refine wpT_nil ?_))
  refine wpT_does (by rfl) (fun K hK => ?_)
  go_simp
  have k0 : Keep (fun _ => False) w w.drew := (Keep.refl _ _).drew
  refine (clone_any (OW.out.keep k0 fun _ _ h => h) (by omega)).mono ?_
  rintro _ w1 ⟨v1, rfl, o1, f1, k1⟩
  have K1 := k0.trans k1
  obtain ⟨a, n, rfl⟩ := o1.form
  have R1 := hid o1.reads
  have hle := own_cap o1
  have d2 := (K1.cell (p := ⟨b, 2, none⟩) hb (fun h => h)).trans c2
  have d3 := (K1.cell (p := ⟨b, 3, none⟩) hb (fun h => h)).trans c3
  refine hK _ _ ⟨d2, d3⟩ ?_
  have KK := hid K1
  clear hK K o1 f1 k1 k0 K1
  try simp only [Act.put, List.setIfInBounds_toArray, List.set_cons_zero, List.set_cons_succ]
  repeat (first
    | (refine' wpT_calm (v := _) (by rfl) (fun W hW => ?_) ?_; rotate_left
       · ((try dsimp only at hW); go_simp; first | done | rfl)
       simp only [Act.put, List.setIfInBounds_toArray, List.set_cons_zero, List.set_cons_succ])
    | (refine' wpT_reads (v := _) (by rfl) ?_ ?_; rotate_left
       · (go_simp; first | done | rfl)
       simp only [Act.put, List.setIfInBounds_toArray, List.set_cons_zero, List.set_cons_succ])
    | (refine wpT_skip (by rfl) rfl ?_; simp only [Act.put, List.setIfInBounds_toArray, List.set_cons_zero, List.set_cons_succ])
    | (refine wpT_does (by rfl) (fun K hK => ?_); go_simp; refine hK _ _ ?_ ?_
       · (trivial)
       clear hK K; try simp only [Act.put, List.setIfInBounds_toArray, List.set_cons_zero, List.set_cons_succ])
    | (refine wpT_last (by rfl) (fun K hK => ?_); go_simp; refine hK _ _ ?_; clear hK K)
    | (refine wpT_nil ?_))
  refine wpT_does (by rfl) (fun K hK => ?_)
  go_simp
  refine (clip_any a S.w.length n hle).mono ?_
  rintro _ _ ⟨rfl, rfl⟩
  refine hK _ _ ⟨d2, d3⟩ ?_
  clear hK K
  try simp only [Act.put, List.setIfInBounds_toArray, List.set_cons_zero, List.set_cons_succ]
  repeat (first
    | (refine' wpT_calm (v := _) (by rfl) (fun W hW => ?_) ?_; rotate_left
       · ((try dsimp only at hW); go_simp; first | done | rfl)
       simp only [Act.put, List.setIfInBounds_toArray, List.set_cons_zero, List.set_cons_succ])
    | (refine' wpT_reads (v := _) (by rfl) ?_ ?_; rotate_left
       · (go_simp; first | done | rfl)
       simp only [Act.put, List.setIfInBounds_toArray, List.set_cons_zero, List.set_cons_succ])
    | (refine wpT_skip (by rfl) rfl ?_; simp only [Act.put, List.setIfInBounds_toArray, List.set_cons_zero, List.set_cons_succ])
    | (refine wpT_does (by rfl) (fun K hK => ?_); go_simp; refine hK _ _ ?_ ?_
       · (trivial)
       clear hK K; try simp only [Act.put, List.setIfInBounds_toArray, List.set_cons_zero, List.set_cons_succ])
    | (refine wpT_last (by rfl) (fun K hK => ?_); go_simp; refine hK _ _ ?_; clear hK K)
    | (refine wpT_nil ?_))
  refine wpT_does (by rfl) (fun K hK => ?_)
  go_simp
  refine (clone_any (OQ.out.keep KK.out fun _ _ h => h) (by omega)).mono ?_
  rintro _ w2 ⟨v2, rfl, o2, f2, k2⟩
  obtain ⟨a2, n2, rfl⟩ := o2.form
  have R1' := hid (R1.out.keep k2 fun _ _ h => h)
  have R2 := hid o2.reads
  have hle2 := own_cap o2
  have K2 := hid (KK.out.trans k2)
  have d2' := (k2.cell (p := ⟨b, 2, none⟩) (World.block_lt_of_cell? _ _ d2) (fun h => h)).trans d2
  have d3' := (k2.cell (p := ⟨b, 3, none⟩) (World.block_lt_of_cell? _ _ d3) (fun h => h)).trans d3
  refine hK _ _ ⟨d2', d3'⟩ ?_
  clear hK K o2 f2 k2
  try simp only [Act.put, List.setIfInBounds_toArray, List.set_cons_zero, List.set_cons_succ]
  repeat (first
    | (refine' wpT_calm (v := _) (by rfl) (fun W hW => ?_) ?_; rotate_left
       · ((try dsimp only at hW); go_simp; first | done | rfl)
       simp only [Act.put, List.setIfInBounds_toArray, List.set_cons_zero, List.set_cons_succ])
    | (refine' wpT_reads (v := _) (by rfl) ?_ ?_; rotate_left
       · (go_simp; first | done | rfl)
       simp only [Act.put, List.setIfInBounds_toArray, List.set_cons_zero, List.set_cons_succ])
    | (refine wpT_skip (by rfl) rfl ?_; simp only [Act.put, List.setIfInBounds_toArray, List.set_cons_zero, List.set_cons_succ])
    | (refine wpT_does (by rfl) (fun K hK => ?_); go_simp; refine hK _ _ ?_ ?_
       · (trivial)
       clear hK K; try simp only [Act.put, List.setIfInBounds_toArray, List.set_cons_zero, List.set_cons_succ])
    | (refine wpT_last (by rfl) (fun K hK => ?_); go_simp; refine hK _ _ ?_; clear hK K)
    | (refine wpT_nil ?_))
  refine wpT_does (by rfl) (fun K hK => ?_)
  go_simp
  refine (clip_any a2 S.q.length n2 hle2).mono ?_
  rintro _ _ ⟨rfl, rfl⟩
  refine hK _ _ ⟨d2', d3'⟩ ?_
  clear hK K
  try simp only [Act.put, List.setIfInBounds_toArray, List.set_cons_zero, List.set_cons_succ]
  repeat (first
    | (refine' wpT_calm (v := _) (by rfl) (fun W hW => ?_) ?_; rotate_left
       · ((try dsimp only at hW); go_simp; first | done | rfl)
       simp only [Act.put, List.setIfInBounds_toArray, List.set_cons_zero, List.set_cons_succ])
    | (refine' wpT_reads (v := _) (by rfl) ?_ ?_; rotate_left
       · (go_simp; first | done | rfl)
       simp only [Act.put, List.setIfInBounds_toArray, List.set_cons_zero, List.set_cons_succ])
    | (refine wpT_skip (by rfl) rfl ?_; simp only [Act.put, List.setIfInBounds_toArray, List.set_cons_zero, List.set_cons_succ])
    | (refine wpT_does (by rfl) (fun K hK => ?_); go_simp; refine hK _ _ ?_ ?_
       · (trivial)
       clear hK K; try simp only [Act.put, List.setIfInBounds_toArray, List.set_cons_zero, List.set_cons_succ])
    | (refine wpT_last (by rfl) (fun K hK => ?_); go_simp; refine hK _ _ ?_; clear hK K)
    | (refine wpT_nil ?_))
  go_wp2
  go_ret2
  exact ⟨_, _, _, _, rfl, R1'.out.recap, R2.out.recap, HH.out.quiet K2.out, K2.out⟩
end

set_option maxHeartbeats 400000 in
theorem rwrong_nil (t : Int) (w : World) : Calls Try.prog 46 #[.pointer none, .int .i64 t] w fun e w' => e = .returned (.int .i64 1) ∧ w = w' := by
  go_enter Try.func46, Try.ntmps46
  go_wp2
  go_ret
  exact ⟨rfl, rfl⟩

set_option maxHeartbeats 400000 in
theorem rtryr_nil (t : Int) (w : World) : Calls Try.prog 28 #[.pointer none, .int .i64 t] w fun e w' => e = .returned (.int .i64 1) ∧ w = w' := by
  go_enter Try.func28, Try.ntmps28
  go_wp2_with fail
  refine (rwrong_nil t w).mono ?_
  rintro _ _ ⟨rfl, rfl⟩
  go_wp2
  go_ret
  exact ⟨rfl, rfl⟩

set_option maxHeartbeats 400000 in
theorem rrlock_nil (t : Int) (w : World) : Calls Try.prog 27 #[.pointer none, .int .i64 t] w fun e w' => e = .returned (.int .i64 1) ∧ w = w' := by
  go_enter Try.func27, Try.ntmps27
  go_wp2_with fail
  refine (rtryr_nil t w).mono ?_
  rintro _ _ ⟨rfl, rfl⟩
  go_wp2
  go_ret
  exact ⟨rfl, rfl⟩

set_option maxHeartbeats 400000 in
theorem rtry_nil (t : Int) (w : World) : Calls Try.prog 38 #[.pointer none, .int .i64 t] w fun e w' => e = .returned (.int .i64 1) ∧ w = w' := by
  go_enter Try.func38, Try.ntmps38
  go_wp2_with fail
  refine (rwrong_nil t w).mono ?_
  rintro _ _ ⟨rfl, rfl⟩
  go_wp2
  go_ret
  exact ⟨rfl, rfl⟩

set_option maxHeartbeats 400000 in
theorem rlock_nil (t : Int) (w : World) : Calls Try.prog 26 #[.pointer none, .int .i64 t] w fun e w' => e = .returned (.int .i64 1) ∧ w = w' := by
  go_enter Try.func26, Try.ntmps26
  go_wp2_with fail
  refine (rtry_nil t w).mono ?_
  rintro _ _ ⟨rfl, rfl⟩
  go_wp2
  go_ret
  exact ⟨rfl, rfl⟩

set_option maxHeartbeats 400000 in
theorem rrunlock_nil (t : Int) (w : World) : Calls Try.prog 29 #[.pointer none, .int .i64 t] w fun e w' => e = .returned (.tuple #[.slice none 0 0, .int .i64 1]) ∧ w = w' := by
  go_enter Try.func29, Try.ntmps29
  go_wp2
  go_ret2
  exact ⟨rfl, rfl⟩

set_option maxHeartbeats 400000 in
theorem runlock_nil (t : Int) (w : World) : Calls Try.prog 30 #[.pointer none, .int .i64 t] w fun e w' => e = .returned (.tuple #[.slice none 0 0, .int .i64 1]) ∧ w = w' := by
  go_enter Try.func30, Try.ntmps30
  go_wp2
  go_ret2
  exact ⟨rfl, rfl⟩

set_option maxHeartbeats 400000 in
theorem rdrop_nil (t : Int) (w : World) : Calls Try.prog 33 #[.pointer none, .int .i64 t] w fun e w' => e = .returned (.tuple #[.slice none 0 0, .bool false]) ∧ w = w' := by
  go_enter Try.func33, Try.ntmps33
  go_wp2
  go_ret2
  exact ⟨rfl, rfl⟩

set_option maxHeartbeats 400000 in
theorem rwriter_nil (w : World) : Calls Try.prog 37 #[.pointer none] w fun e w' => e = .returned (.int .i64 0) ∧ w = w' := by
  go_enter Try.func37, Try.ntmps37
  go_wp2
  go_ret
  exact ⟨rfl, rfl⟩

set_option maxHeartbeats 400000 in
theorem rreaders_nil (w : World) : Calls Try.prog 32 #[.pointer none] w fun e w' => e = .returned (.slice none 0 0) ∧ w = w' := by
  go_enter Try.func32, Try.ntmps32
  go_wp2
  go_ret
  exact ⟨rfl, rfl⟩

set_option maxHeartbeats 400000 in
theorem rwaits_nil (w : World) : Calls Try.prog 36 #[.pointer none] w fun e w' => e = .returned (.tuple #[.slice none 0 0, .slice none 0 0]) ∧ w = w' := by
  go_enter Try.func36, Try.ntmps36
  go_wp2
  go_ret2
  exact ⟨rfl, rfl⟩

end Go.Proofs.Ytegpoocmhamlpaa
