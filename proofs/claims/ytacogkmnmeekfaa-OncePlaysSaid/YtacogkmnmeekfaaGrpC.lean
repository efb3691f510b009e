/- Layer 16's fixed fact; GroupNone; GroupEnds. -/
import Derived.Test.YtacogkmnmeekfaaGrpB
namespace Go.Proofs.Ytacogkmnmeekfaa
open Go Go.RowKit

/-- Made since w0: nothing that was there is turned. -/
def GNew (w0 w : World) (G : Nat → Prop) (b : Nat) (c : Int) (l : List Int) : Prop :=
  IsGrp w G b c l ∧ (∀ k, G k → w0.heap.size ≤ k) ∧ Keep (fun _ => False) w0 w

theorem GNew.on {w0 w w' : World} {G : Nat → Prop} {b : Nat} {c c' : Int} {l l' : List Int} (h : GNew w0 w G b c l) (h' : After G w w' b c' l') : ∃ G', GNew w0 w' G' b c' l' ∧ (∀ k, G' k → G k ∨ w.heap.size ≤ k) ∧ Keep G w w' := by
  obtain ⟨h1, h2, h3⟩ := h
  obtain ⟨G', i1, i2, i3⟩ := h'
  exact ⟨G', ⟨i1, fun k hk => (i2 k hk).elim (h2 k) (fun h => Nat.le_trans h3.size h), h3.then i3 fun k hk => .inr (h2 k hk)⟩, i2, i3⟩

theorem GNew.keep {w0 w w' : World} {F G : Nat → Prop} {b : Nat} {c : Int} {l : List Int} (h : GNew w0 w G b c l) (hK : Keep F w w') (hF : ∀ k, F k → w0.heap.size ≤ k ∧ ¬ G k) : GNew w0 w' G b c l :=
  ⟨h.1.keep hK (fun k hk hf => (hF k hf).2 hk), h.2.1, h.2.2.then hK fun k hk => .inr (hF k hk).1⟩

theorem gnew_n (w : World) : Calls Try.prog 18 #[] w fun e w' => e = .returned (.pointer (some ⟨w.heap.size, 0, none⟩)) ∧ ∃ G, GNew w w' G w.heap.size 0 [] :=
  (gnew_any w).mono fun _ _ h => ⟨h.1, _, h.2.1, fun k hk => Nat.le_of_eq hk.symm, h.2.2⟩

theorem gwait_n {w0 w : World} {G : Nat → Prop} {b : Nat} {c : Int} {l : List Int} (t : Int) (h : GNew w0 w G b c l) (hn : l.length ≤ 1000) {e : Int} {l' : List Int} (he : waitE c l t = e) (hl : waitL c l t = l') :
    Calls Try.prog 20 #[.pointer (some ⟨b, 0, none⟩), .int .i64 t] w fun en w' => en = .returned (.int .i64 e) ∧ ∃ G', GNew w0 w' G' b c l' ∧ (∀ k, G' k → G k ∨ w.heap.size ≤ k) ∧ Keep G w w' := by
  subst he hl
  exact (gwait_any t h.1 hn).mono fun _ _ r => ⟨r.1, h.on r.2⟩

theorem gdrop_n {w0 w : World} {G : Nat → Prop} {b : Nat} {c : Int} {l : List Int} (t : Int) (h : GNew w0 w G b c l) (hn : l.length ≤ 1000) :
    Calls Try.prog 32 #[.pointer (some ⟨b, 0, none⟩), .int .i64 t] w fun en w' => en = .returned (.bool (decide (t ∈ l))) ∧ ∃ G', GNew w0 w' G' b c (dropT l t) ∧ (∀ k, G' k → G k ∨ w.heap.size ≤ k) ∧ Keep G w w' :=
  (gdrop_any t h.1 hn).mono fun _ _ r => ⟨r.1, h.on r.2⟩

theorem gadd_n {w0 w : World} {G : Nat → Prop} {b : Nat} {c : Int} {l : List Int} (n : Int) (h : GNew w0 w G b c l) {e c' : Int} {o l' : List Int} (he : addE c n = e) (hc : addC c n = c') (ho : addO c l n = o) (hl : addL c l n = l') :
    Calls Try.prog 19 #[.pointer (some ⟨b, 0, none⟩), .int .i64 n] w fun en w' => ∃ a m, en = .returned (.tuple #[.slice a o.length m, .int .i64 e]) ∧ ReadI w' (.slice a o.length m) o ∧ Keep G w w' ∧
      ∃ G', GNew w0 w' G' b c' l' ∧ (∀ k, G' k → G k) ∧ ∀ k, (Value.slice a o.length m).ownBlock = some k → G k ∧ ¬ G' k := by
  subst he hc ho hl
  refine (gadd_any n h.1).mono ?_
  rintro _ _ ⟨v', rfl, r, k, G', i, j, q⟩
  obtain ⟨a, m, rfl⟩ := r.form
  exact ⟨a, m, rfl, r, k, G', ⟨i, fun x hx => h.2.1 x (j x hx), h.2.2.then k fun x hx => .inr (h.2.1 x hx)⟩, j, q⟩

theorem gcount_n {w0 w : World} {G : Nat → Prop} {b : Nat} {c : Int} {l : List Int} (h : GNew w0 w G b c l) :
    Calls Try.prog 23 #[.pointer (some ⟨b, 0, none⟩)] w fun e w' => e = .returned (.int .i64 c) ∧ w = w' := gcount_any h.1

set_option maxHeartbeats 1000000 in
theorem gawake_any (w : World) : Calls Try.prog 22 #[] w fun en w' => en = .returned (.bool true) ∧ Keep (fun _ => False) w w' := by
  go_enter Try.func22, Try.ntmps22
  go_wp2_with fail
  refine (gnew_n w).mono ?_
  rintro e w1 ⟨rfl, G1, N1⟩
  go_wp2_with fail
  refine (gadd_n 2 N1 (e := 0) (c' := 2) (o := []) (l' := []) (by decide) (by decide) (by decide) (by decide)).mono ?_
  rintro e w2 ⟨a2, m2, rfl, -, -, G2, N2, -, -⟩
  clear N1
  go_wp2_with fail
  refine (gwait_n 5 N2 (by decide) (e := 14) (l' := [5]) (by decide) (by decide)).mono ?_
  rintro e w3 ⟨rfl, G3, N3, -, -⟩
  clear N2
  go_wp2_with fail
  refine (gwait_n 4 N3 (by decide) (e := 14) (l' := [5, 4]) (by decide) (by decide)).mono ?_
  rintro e w4 ⟨rfl, G4, N4, -, -⟩
  clear N3
  go_wp2_with fail
  refine (gadd_n (-1) N4 (e := 0) (c' := 1) (o := []) (l' := [5, 4]) (by decide) (by decide) (by decide) (by decide)).mono ?_
  rintro e w5 ⟨a5, m5, rfl, -, -, G5, N5, -, -⟩
  clear N4
  go_wp2_with fail
  refine (gadd_n (-1) N5 (e := 0) (c' := 0) (o := [5, 4]) (l' := []) (by decide) (by decide) (by decide) (by decide)).mono ?_
  rintro e w6 ⟨a6, m6, rfl, R6, -, G6, N6, -, Q6⟩
  clear N5
  go_wp2_with fail
  refine (gadd_n (-1) N6 (e := 11) (c' := 0) (o := []) (l' := []) (by decide) (by decide) (by decide) (by decide)).mono ?_
  rintro e w7 ⟨a7, m7, rfl, -, K7, G7, N7, -, -⟩
  have R7 := hid (R6.keep K7 fun k hk => (Q6 k hk).2)
  have NN7 := hid N7
  clear N6 R6 Q6 K7 N7
  go_wp2_with fail
  refine (ints_any (l := [5, 4]) (m := [5, 4]) (R7.out.keep ((Keep.refl (fun _ => False) _).alloc _) (fun _ _ h => h)) (made_ints w7 [5, 4] (by decide)).reads).mono ?_
  rintro e w8 ⟨rfl, K8⟩
  have k8 : Keep (fun _ => False) w7 w8 := ((Keep.refl _ _).alloc _).trans K8
  have N8 := hid (NN7.out.keep k8 (fun k h => h.elim))
  rw [show decide ([5, 4] = [(5 : Int), 4]) = true from by decide]
  clear K8 k8
  go_wp2_with fail
  refine (gwait_n 5 N8.out (by decide) (e := 0) (l' := []) (by decide) (by decide)).mono ?_
  rintro e w9 ⟨rfl, G9, N9, -, -⟩
  have K9 := hid N9.2.2
  clear N9
  go_wp2
  go_ret
  exact ⟨rfl, K9.out⟩

set_option maxHeartbeats 400000 in
theorem gadd_nil (n : Int) (w : World) : Calls Try.prog 19 #[.pointer none, .int .i64 n] w fun e w' => e = .returned (.tuple #[.slice none 0 0, .int .i64 1]) ∧ w = w' := by
  go_enter Try.func19, Try.ntmps19
  go_wp2
  go_ret2
  exact ⟨rfl, rfl⟩

set_option maxHeartbeats 400000 in
theorem gwait_nil (t : Int) (w : World) : Calls Try.prog 20 #[.pointer none, .int .i64 t] w fun e w' => e = .returned (.int .i64 1) ∧ w = w' := by
  go_enter Try.func20, Try.ntmps20
  go_wp2
  go_ret
  exact ⟨rfl, rfl⟩

set_option maxHeartbeats 400000 in
theorem gdrop_nil (t : Int) (w : World) : Calls Try.prog 32 #[.pointer none, .int .i64 t] w fun e w' => e = .returned (.bool false) ∧ w = w' := by
  go_enter Try.func32, Try.ntmps32
  go_wp2
  go_ret
  exact ⟨rfl, rfl⟩

set_option maxHeartbeats 400000 in
theorem gcount_nil (w : World) : Calls Try.prog 23 #[.pointer none] w fun e w' => e = .returned (.int .i64 0) ∧ w = w' := by
  go_enter Try.func23, Try.ntmps23
  go_wp2
  go_ret
  exact ⟨rfl, rfl⟩

set_option maxHeartbeats 400000 in
theorem gwaits_nil (w : World) : Calls Try.prog 24 #[.pointer none] w fun e w' => e = .returned (.slice none 0 0) ∧ w = w' := by
  go_enter Try.func24, Try.ntmps24
  go_wp2
  go_ret
  exact ⟨rfl, rfl⟩

set_option maxHeartbeats 400000 in
theorem gnone_any (t n : Int) (w : World) : Calls Try.prog 11 #[.int .i64 t, .int .i64 n] w fun en w' => en = .returned (.bool true) ∧ Below w.heap.size w w' := by
  go_enter Try.func11, Try.ntmps11
  go_wp2_with fail
  refine (gadd_nil n w).mono ?_
  rintro e w1 ⟨rfl, rfl⟩
  go_wp2_with fail
  refine (gawake_any w).mono ?_
  rintro e w2 ⟨rfl, K⟩
  have K := hid K
  go_wp2_with fail
  refine (gwait_nil t w2).mono ?_
  rintro e _ ⟨rfl, rfl⟩
  go_wp2_with fail
  refine (gdrop_nil t w2).mono ?_
  rintro e _ ⟨rfl, rfl⟩
  go_wp2_with fail
  refine (gcount_nil w2).mono ?_
  rintro e _ ⟨rfl, rfl⟩
  go_wp2_with fail
  refine (gwaits_nil w2).mono ?_
  rintro e _ ⟨rfl, rfl⟩
  go_wp2
  go_ret
  exact ⟨rfl, K.out.below (fun _ h => h.elim) (Nat.le_refl _)⟩

end Go.Proofs.Ytacogkmnmeekfaa
