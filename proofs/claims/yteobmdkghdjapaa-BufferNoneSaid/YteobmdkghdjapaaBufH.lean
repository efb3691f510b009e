/- The walks of BufferNone and BufferSame. -/
import Derived.Test.YteobmdkghdjapaaBufG
import Derived.Test.YteobmdkghdjapaaArg
namespace Go.Proofs.Yteobmdkghdjapaa
open Go.RowKit


/-- What the last line of BufferNone asks of a buffer for none, in any order of worlds. -/
def Tail (b x : Nat) (t e : Int) (w W : World) : Prop :=
  Calls Try.prog 20 #[] W fun en1 W1 => en1 = .returned (.bool true) ∧ W1.cell? ⟨x, 0, none⟩ = some (.int .i64 t) ∧ W1.cell? ⟨x, 1, none⟩ = some (.int .i64 e) ∧
    Hid (Calls Try.prog 14 #[.pointer (some ⟨b, 0, none⟩), .agg #[.int .i64 t, .int .i64 e]] W1 fun en2 W2 => en2 = .returned (.bool false) ∧
      Hid (Calls Try.prog 16 #[.pointer (some ⟨b, 0, none⟩)] W2 fun en3 W3 => en3 = .returned (.int .i64 0) ∧
        Hid (Calls Try.prog 18 #[.pointer (some ⟨b, 0, none⟩)] W3 fun en4 W4 => (∃ a c, en4 = .returned (.slice a 0 c)) ∧ Below w.heap.size w W4)))

theorem none_rest {x : Int} (hx : mostOf x = 0) (t e : Int) (w W : World) (b : Nat) (hI : IsBuf W b [] (mostOf x)) (hb : w.heap.size ≤ b) (hK : Keep (fun _ => False) (w.alloc (.cells #[.int .i64 t, .int .i64 e] 31)) W) : Tail b w.heap.size t e w W := by
  have hK0 := ((Keep.refl (fun _ => False) w).alloc (.cells #[.int .i64 t, .int .i64 e] 31)).trans hK
  rw [hx] at hI
  refine (awake_any W).mono ?_
  rintro _ W1 ⟨rfl, K1⟩
  have hK1 := hK.trans K1
  refine ⟨rfl, (hK1.cell (p := ⟨w.heap.size, 0, none⟩) (by simp) (fun h => h)).trans (by rw [World.cell?_alloc_new]; rfl), (hK1.cell (p := ⟨w.heap.size, 1, none⟩) (by simp) (fun h => h)).trans (by rw [World.cell?_alloc_new]; rfl), ?_⟩
  have hI1 := hI.keep K1 (fun h => h)
  refine (put_full t e hI1 rfl).mono ?_
  rintro _ W2 ⟨rfl, K2⟩
  refine ⟨rfl, ?_⟩
  have hI2 := hI1.keep K2 (fun h => h)
  refine (len_any hI2).mono ?_
  rintro _ W3 ⟨rfl, rfl⟩
  refine ⟨rfl, ?_⟩
  refine (deliver_any hI2).mono ?_
  rintro _ W4 ⟨v, rfl, hW, _, _, K4⟩
  obtain ⟨a, c, hv⟩ := owns_form hW
  refine ⟨⟨a, c, by rw [hv]; rfl⟩, ?_⟩
  have := ((hK0.trans K1).trans K2).then K4 (fun i (h : i = b) => .inr (by omega))
  exact this.below (fun _ h => h.elim) (Nat.le_refl _)

set_option maxHeartbeats 1000000 in
theorem walk_BufferNone (t : Int) (_w0 : (Lit.int .i64 t).wf = true) (e : Int) (_w1 : (Lit.int .i64 e).wf = true) (most : Int) (_w2 : (Lit.int .i64 most).wf = true) (w : World) :
    Calls Try.prog 6 #[.agg #[.int .i64 t, .int .i64 e], .int .i64 most] w fun en w' => en = .returned (.bool true) ∧ Below w.heap.size w w' := by
  go_enter Try.func6, Try.ntmps6
  go_wp2_with fail
  refine (put_nil t e _).mono ?_
  rintro _ W1 ⟨rfl, K1⟩
  have K1 := hid K1
  go_wp2_with fail
  refine (len_nil _).mono ?_
  rintro _ W2 ⟨rfl, rfl⟩
  go_wp2_with fail
  refine (deliver_nil _).mono ?_
  rintro _ W3 ⟨rfl, rfl⟩
  go_wp2_with fail
  refine (new_any 0 _).mono ?_
  rintro _ W2 ⟨rfl, I2, K2⟩
  have hs1 : w.heap.size ≤ W1.heap.size := by have := K1.out.size; simp at this; omega
  have K2 := hid (K1.out.trans K2)
  have I2 := hid I2
  clear K1
  by_cases hm : most < 0
  · go_wp2_with fail
    refine (new_any most _).mono ?_
    rintro _ W3 ⟨rfl, I3, K3⟩
    have hs2 : w.heap.size ≤ W2.heap.size := by have := K2.out.size; simp at this; omega
    have MAIN := none_rest (x := most) (by unfold mostOf; rw [if_neg (by omega)]; omega) t e w W3 _ I3 hs2 (K2.out.trans K3)
    have M := hid MAIN
    clear I2 I3 K2 K3 MAIN
    go_wp2_with fail
    refine M.out.mono ?_
    rintro _ W4 ⟨rfl, b1, b2, M2⟩
    go_wp2_with fail
    refine M2.out.mono ?_
    rintro _ W5 ⟨rfl, M3⟩
    go_wp2_with fail
    refine M3.out.mono ?_
    rintro _ W6 ⟨rfl, M4⟩
    go_wp2_with fail
    refine M4.out.mono ?_
    rintro _ W7 ⟨⟨a, c, rfl⟩, hB⟩
    have hB := hid hB
    go_wp2
    go_ret
    exact ⟨rfl, hB.out⟩
  · have MAIN := none_rest (x := 0) rfl t e w W2 _ I2.out hs1 K2.out
    have M := hid MAIN
    clear I2 K2 MAIN
    go_wp2_with fail
    refine M.out.mono ?_
    rintro _ W4 ⟨rfl, b1, b2, M2⟩
    go_wp2_with fail
    refine M2.out.mono ?_
    rintro _ W5 ⟨rfl, M3⟩
    go_wp2_with fail
    refine M3.out.mono ?_
    rintro _ W6 ⟨rfl, M4⟩
    go_wp2_with fail
    refine M4.out.mono ?_
    rintro _ W7 ⟨⟨a, c, rfl⟩, hB⟩
    have hB := hid hB
    go_wp2
    go_ret
    exact ⟨rfl, hB.out⟩
end Go.Proofs.Yteobmdkghdjapaa
