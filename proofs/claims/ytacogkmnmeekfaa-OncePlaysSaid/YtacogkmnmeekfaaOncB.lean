/- The walks of package once: Drop; none of it; the fixed fact; OnceNone. -/
import Derived.Test.YtacogkmnmeekfaaOncA
namespace Go.Proofs.Ytacogkmnmeekfaa
open Go Go.RowKit

set_option maxHeartbeats 1000000 in
theorem odrop_any {w0 w : World} {G : Nat → Prop} {b : Nat} {d : Int} {o : Bool} {l : List Int} (t : Int) (h : ONew 61 w0 w G b (opre d o) l) (hn : l.length ≤ 1000) :
    Calls Try.prog 25 #[.pointer (some ⟨b, 0, none⟩), .int .i64 t] w fun e w' => e = .returned (.bool (decide (t ∈ l))) ∧ StepO 61 w0 G w w' b (opre d o) (dropT l t) := by
  have HH := hid h
  obtain ⟨⟨hGb, hG, v, h, hGv⟩, _⟩ := h
  have h1 : w.cell? ⟨b, 2, none⟩ = some v := h.list
  have H := hid h
  clear h
  go_enter Try.func25, Try.ntmps25
  go_wp2_with fail
  refine (index_any t H.out.own.reads).mono ?_
  rintro _ _ ⟨rfl, rfl⟩
  by_cases hm : t ∈ l
  · have hi : l.idxOf t < l.length := List.idxOf_lt_length_iff.2 hm
    have D := hid (dropT_in hm)
    have hd : Hid (decide (t ∈ l) = true) := decide_eq_true hm
    rw [idx_in hm]
    clear hm
    generalize l.idxOf t = i at hi D ⊢
    have hi' : (i : Int) ≤ 1000 := by omega
    have hi0 : (0 : Int) ≤ (i : Int) := by omega
    go_wp2_with fail
    refine (delete_any i _ _ rfl rfl hi H.out.own).mono ?_
    rintro _ w1 ⟨v1, rfl, o1, f1, k1⟩
    obtain ⟨a1, n1, hv1⟩ := o1.form
    generalize (l.eraseIdx i).length = m1 at hv1
    subst hv1
    have hr := (k1.block b H.out.lt H.out.ne).trans H.out.row
    have hne : (Value.slice a1 m1 n1).ownBlock ≠ some b := fun e => H.out.ne (by rw [← f1]; exact e)
    have H1 := hid (ObjAt.setList hr o1 hne)
    have h1 : w1.cell? ⟨b, 2, none⟩ = some v := by rw [cell_of_row w1 b 2 _ _ _ hr]; rfl
    have hf : w1.frozen? ⟨b, 2, none⟩ = false := by simp [World.frozen?, hr]
    have HF : Hid (∀ k, (Value.slice a1 m1 n1).ownBlock = some k → G k ∨ w.heap.size ≤ k) := fun k hk => .inl (hGv k (by rw [← f1]; exact hk))
    have HK := hid (k1.mono fun k _ e => hGv k e)
    clear hne f1 k1 hr o1
    go_wp2
    go_ret
    rw [hd.out, D.out]
    exact ⟨rfl, HH.out.on (AfterO.mk HK.out hGb _ H1.out HF.out)⟩
  · have D := hid (dropT_no hm)
    have hd : Hid (decide (t ∈ l) = false) := decide_eq_false hm
    rw [idx_out hm]
    clear hm
    go_wp2
    go_ret
    rw [hd.out, D.out]
    exact ⟨rfl, HH.out.on HH.out.1.after⟩

set_option maxHeartbeats 400000 in
theorem obegin_nil (t : Int) (w : World) : Calls Try.prog 14 #[.pointer none, .int .i64 t] w fun e w' => e = .returned (.tuple #[.bool false, .int .i64 1]) ∧ w = w' := by
  go_enter Try.func14, Try.ntmps14
  go_wp2
  go_ret2
  exact ⟨rfl, rfl⟩

set_option maxHeartbeats 400000 in
theorem odone_nil (t : Int) (w : World) : Calls Try.prog 13 #[.pointer none, .int .i64 t] w fun e w' => e = .returned (.tuple #[.slice none 0 0, .int .i64 1]) ∧ w = w' := by
  go_enter Try.func13, Try.ntmps13
  go_wp2
  go_ret2
  exact ⟨rfl, rfl⟩

set_option maxHeartbeats 400000 in
theorem odrop_nil (t : Int) (w : World) : Calls Try.prog 25 #[.pointer none, .int .i64 t] w fun e w' => e = .returned (.bool false) ∧ w = w' := by
  go_enter Try.func25, Try.ntmps25
  go_wp2
  go_ret
  exact ⟨rfl, rfl⟩

set_option maxHeartbeats 400000 in
theorem odoer_nil (w : World) : Calls Try.prog 16 #[.pointer none] w fun e w' => e = .returned (.int .i64 0) ∧ w = w' := by
  go_enter Try.func16, Try.ntmps16
  go_wp2
  go_ret
  exact ⟨rfl, rfl⟩

set_option maxHeartbeats 400000 in
theorem oover_nil (w : World) : Calls Try.prog 15 #[.pointer none] w fun e w' => e = .returned (.bool false) ∧ w = w' := by
  go_enter Try.func15, Try.ntmps15
  go_wp2
  go_ret
  exact ⟨rfl, rfl⟩

set_option maxHeartbeats 400000 in
theorem owaits_nil (w : World) : Calls Try.prog 26 #[.pointer none] w fun e w' => e = .returned (.slice none 0 0) ∧ w = w' := by
  go_enter Try.func26, Try.ntmps26
  go_wp2
  go_ret
  exact ⟨rfl, rfl⟩

set_option maxRecDepth 10000 in
set_option maxHeartbeats 1000000 in
theorem oawake_any (w : World) : Calls Try.prog 17 #[] w fun en w' => en = .returned (.bool true) ∧ Keep (fun _ => False) w w' := by
  go_enter Try.func17, Try.ntmps17
  go_wp2_with fail
  refine (onew_any w).mono ?_
  rintro e w1 ⟨rfl, G1, N1⟩
  go_wp2_with fail
  refine (obegin_any 1 N1 (by decide) (r := true) (e := 0) (d' := 1) (l' := []) (by decide)).mono ?_
  rintro e w2 ⟨rfl, G2, N2, -, -⟩
  clear N1
  go_wp2_with fail
  refine (obegin_any 2 N2 (by decide) (r := false) (e := 14) (d' := 1) (l' := [2]) (by decide)).mono ?_
  rintro e w3 ⟨rfl, G3, N3, -, -⟩
  clear N2
  go_wp2_with fail
  refine (odone_any 2 N3 (e := 11) (d' := 1) (o' := false) (q := []) (l' := [2]) (by decide)).mono ?_
  rintro e w4 ⟨a4, m4, rfl, -, -, G4, N4, -, -⟩
  clear N3
  go_wp2_with fail
  refine (odone_any 1 N4 (e := 0) (d' := 0) (o' := true) (q := [2]) (l' := []) (by decide)).mono ?_
  rintro e w5 ⟨a5, m5, rfl, R5, -, G5, N5, -, Q5⟩
  clear N4
  go_wp2_with fail
  refine (obegin_any 3 N5 (by decide) (r := false) (e := 0) (d' := 0) (l' := []) (by decide)).mono ?_
  rintro e w6 ⟨rfl, G6, N6, -, K6⟩
  have R6 := hid (R5.keep K6 fun k hk => (Q5 k hk).2.2)
  have NN := hid N6
  clear N5 R5 Q5 K6 N6
  go_wp2_with fail
  refine (ints_any (l := [2]) (m := [2]) (R6.out.keep ((Keep.refl (fun _ => False) _).alloc _) (fun _ _ h => h)) (made_ints w6 [2] (by decide)).reads).mono ?_
  rintro e w7 ⟨rfl, K7⟩
  have k7 : Keep (fun _ => False) w6 w7 := ((Keep.refl _ _).alloc _).trans K7
  have N7 := hid (NN.out.keep k7 (fun k h => h.elim))
  rw [show decide ([2] = [(2 : Int)]) = true from by decide]
  clear K7 k7
  go_wp2_with fail
  refine (oover_any N7.out).mono ?_
  rintro e _ ⟨rfl, rfl⟩
  go_wp2
  go_ret
  exact ⟨rfl, N7.out.2.2⟩

set_option maxRecDepth 10000 in
set_option maxHeartbeats 400000 in
theorem walk_OnceNone (w : World) (t : Int) (_ : (Lit.int .i64 t).wf = true) : Calls Try.prog 9 #[.int .i64 t] w fun en w' => en = .returned (.bool true) ∧ Below w.heap.size w w' := by
  go_enter Try.func9, Try.ntmps9
  go_wp2_with fail
  refine (obegin_nil t w).mono ?_
  rintro e _ ⟨rfl, rfl⟩
  go_wp2_with fail
  refine (odone_nil t w).mono ?_
  rintro e _ ⟨rfl, rfl⟩
  go_wp2_with fail
  refine (oawake_any w).mono ?_
  rintro e w2 ⟨rfl, K⟩
  have K := hid K
  go_wp2_with fail
  refine (odrop_nil t w2).mono ?_
  rintro e _ ⟨rfl, rfl⟩
  go_wp2_with fail
  refine (odoer_nil w2).mono ?_
  rintro e _ ⟨rfl, rfl⟩
  go_wp2_with fail
  refine (oover_nil w2).mono ?_
  rintro e _ ⟨rfl, rfl⟩
  go_wp2_with fail
  refine (owaits_nil w2).mono ?_
  rintro e _ ⟨rfl, rfl⟩
  go_wp2
  go_ret
  exact ⟨rfl, K.out.below (fun _ h => h.elim) (Nat.le_refl _)⟩

end Go.Proofs.Ytacogkmnmeekfaa
