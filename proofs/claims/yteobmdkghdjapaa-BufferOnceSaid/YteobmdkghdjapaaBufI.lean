/- The walk of BufferSame: how many are told does not hang on how many there are. -/
import Derived.Test.YteobmdkghdjapaaBufG
import Derived.Test.YteobmdkghdjapaaArg
namespace Go.Proofs.Yteobmdkghdjapaa
open Go.RowKit

/-- A Put, whatever there is. -/
theorem put_any {b : Nat} {l : List (Int × Int)} {m : Nat} {w : World} (t e : Int) (h : IsBuf w b l m) :
    Calls Try.prog 14 #[.pointer (some ⟨b, 0, none⟩), .agg #[.int .i64 t, .int .i64 e]] w (PutAns b l m t e w) := by
  by_cases hq : l.length = m
  · refine (put_full t e h hq).mono ?_
    rintro en w' ⟨rfl, hK⟩
    exact ⟨false, rfl, hK.mono (fun _ _ h => h.elim), .inl ⟨rfl, .inl hq, h.keep hK (fun h => h)⟩⟩
  · exact put_room t e h (by have := h.le; omega)

theorem arg_wakes {w : World} {v : Value} {n : Nat} {f : Nat → Nat → Int} (h : ArgRows w v [.i64, .i64] n f) (hn : 0 < n) :
    ∃ g off c, v = .slice (some ⟨g, off, none⟩) n c ∧ g < w.heap.size ∧ ∀ i, i < n → w.cell? ⟨g, off + i * 2, none⟩ = some (.int .i64 (f i 0)) ∧ w.cell? ⟨g, off + i * 2 + 1, none⟩ = some (.int .i64 (f i 1)) := by
  obtain ⟨_, ⟨rfl, _⟩ | ⟨g, off, c, rfl, hg, hc⟩⟩ := h
  · omega
  · exact ⟨g, off, c, rfl, hg, fun i hi => ⟨(hc i hi 0 .i64 rfl).1, (hc i hi 1 .i64 rfl).1⟩⟩

theorem dlen (l : List (Int × Int)) (m : Nat) (h : l.length ≤ m) : (l ++ zeros2 (m - l.length)).length = m := by simp [zeros2]; omega

theorem wakes_form {w : World} {v : Value} {l : List (Int × Int)} {m : Nat} (h : Wakes w v l) (e : l.length = m) : ∃ a c, v = .slice a m c := by
  subst e; exact owns_form h

set_option maxHeartbeats 1000000 in
theorem walk_BufferSame (w : World) (most : Int) (_w0 : (Lit.int .i64 most).wf = true) (v1 : Value) (n1 : Nat) (f1 : Nat → Nat → Int) (w1 : ArgRows w v1 [.i64, .i64] n1 f1) (v2 : Value) (n2 : Nat) (f2 : Nat → Nat → Int) (w2 : ArgRows w v2 [.i64, .i64] n2 f2) :
    Calls Try.prog 4 #[.int .i64 most, v1, v2] w fun en w' => en = .returned (.bool true) ∧ Below w.heap.size w w' := by
  obtain ⟨a1, c1, hv1⟩ := w1.form
  obtain ⟨a2, c2, hv2⟩ := w2.form
  have A1 := hid w1
  have A2 := hid w2
  have V1 := hid hv1
  have V2 := hid hv2
  have hM := hid (mostOf_le most)
  rw [hv1, hv2]
  clear w1 w2 hv1 hv2
  go_enter Try.func4, Try.ntmps4
  go_wp2_with fail
  refine (new_any most _).mono ?_
  rintro _ W1 ⟨rfl, I1, K1⟩
  have hs1 : w.heap.size < W1.heap.size := I1.lt
  have K1 := hid K1
  have I1 := hid I1
  go_wp2_with fail
  refine (new_any most _).mono ?_
  rintro _ W2 ⟨rfl, J2, K2⟩
  have I2 := hid (I1.out.keep K2 (fun h => h))
  have K2 := hid (K1.out.trans K2)
  have J2 := hid J2
  have hbx : w.heap.size ≠ W1.heap.size := Nat.ne_of_lt hs1
  obtain ⟨by', hby⟩ : ∃ x, W1.heap.size = x := ⟨_, rfl⟩
  rw [hby] at J2 hbx hs1 ⊢
  obtain ⟨bx, hbx'⟩ : ∃ x, w.heap.size = x := ⟨_, rfl⟩
  rw [hbx'] at I2 hbx hs1 ⊢
  have E1 := hid hbx'
  clear I1 K1 hby hbx'
  go_wp2_with fail
  go_loopw [9] (fun i wr => ∃ (k : Nat) (l : List (Int × Int)), k ≤ n1 ∧ k ≤ 30 ∧ i = .int .i64 k ∧ IsBuf wr bx l (mostOf most) ∧ IsBuf wr by' [] (mostOf most) ∧ Below w.heap.size w wr) (fun i _ => 30 - (intOf i).toNat)
  case atStart => exact ⟨0, [], Nat.zero_le _, by omega, rfl, I2.out, J2.out, K2.out.below (fun _ h => h.elim) (Nat.le_refl _)⟩
  case round =>
    obtain ⟨k, l, hk, hk30, rfl, I, J, B⟩ := hrel
    clear I2 J2 K2
    by_cases hlt : k < n1 ∧ k < 30
    · obtain ⟨g, off, c, hv, hg, hc⟩ := arg_wakes A1.out (by omega)
      have hav : a1 = some ⟨g, off, none⟩ ∧ c1 = c := by rw [V1.out] at hv; cases hv; exact ⟨rfl, rfl⟩
      obtain ⟨rfl, rfl⟩ := hav
      have k1 := (B.cell (p := ⟨g, off + k * 2, none⟩) hg).trans (hc k hlt.1).1
      have k2 := (B.cell (p := ⟨g, off + k * 2 + 1, none⟩) hg).trans (hc k hlt.1).2
      have hlt1 : (k : Int) < (n1 : Int) := by omega
      have hlt2 : (k : Int) < 30 := by omega
      have I := hid I
      have J := hid J
      have B := hid B
      clear hc hv
      go_wp2_with fail
      refine (put_any (f1 k 0) (f1 k 1) I.out).mono ?_
      rintro _ W3 ⟨r, rfl, K3, hr⟩
      have hI3 : ∃ l', IsBuf W3 bx l' (mostOf most) := by
        rcases hr with ⟨_, _, h⟩ | ⟨_, _, _, h⟩
        · exact ⟨_, h⟩
        · exact ⟨_, h⟩
      obtain ⟨l', I3⟩ := hI3
      have J3 := hid (J.out.keep K3 (fun h => hbx h.symm))
      have I3 := hid I3
      have B3 := hid (B.out.trans (K3.below (B := w.heap.size) (fun j (h : j = bx) => by rw [h, ← E1.out]; exact Nat.le_refl _) B.out.size))
      clear hr K3 I J B k1 k2
      go_wp2
      go_roundw
      case rel => exact ⟨k + 1, l', by omega, by omega, by go_num, I3.out, J3.out, B3.out⟩
      case measure => simp [intOf]; omega
    · have I := hid I
      have J := hid J
      have B := hid B
      have hge : ¬ ((k : Int) < (n1 : Int)) ∨ (k : Int) < (n1 : Int) ∧ ¬ ((k : Int) < 30) := by omega
      rcases hge with hge | ⟨hge1, hge2⟩
      all_goals
        go_wp2_with fail
        go_loopw [10] (fun i wr => ∃ (k : Nat) (l2 : List (Int × Int)), k ≤ n2 ∧ k ≤ 30 ∧ i = .int .i64 k ∧ IsBuf wr bx l (mostOf most) ∧ IsBuf wr by' l2 (mostOf most) ∧ Below w.heap.size w wr) (fun i _ => 30 - (intOf i).toNat)
        case atStart => exact ⟨0, [], Nat.zero_le _, by omega, rfl, I.out, J.out, B.out⟩
        case round =>
          obtain ⟨k, l2, hk, hk30, rfl, I, J, B⟩ := hrel
          by_cases hlt : k < n2 ∧ k < 30
          · obtain ⟨g, off, c, hv, hg, hc⟩ := arg_wakes A2.out (by omega)
            have hav : a2 = some ⟨g, off, none⟩ ∧ c2 = c := by rw [V2.out] at hv; cases hv; exact ⟨rfl, rfl⟩
            obtain ⟨rfl, rfl⟩ := hav
            have k1 := (B.cell (p := ⟨g, off + k * 2, none⟩) hg).trans (hc k hlt.1).1
            have k2 := (B.cell (p := ⟨g, off + k * 2 + 1, none⟩) hg).trans (hc k hlt.1).2
            have hlt1 : (k : Int) < (n2 : Int) := by omega
            have hlt2 : (k : Int) < 30 := by omega
            have I := hid I
            have J := hid J
            have B := hid B
            clear hc hv
            go_wp2_with fail
            refine (put_any (f2 k 0) (f2 k 1) J.out).mono ?_
            rintro _ W3 ⟨r, rfl, K3, hr⟩
            have hJ3 : ∃ l', IsBuf W3 by' l' (mostOf most) := by
              rcases hr with ⟨_, _, h⟩ | ⟨_, _, _, h⟩
              · exact ⟨_, h⟩
              · exact ⟨_, h⟩
            obtain ⟨l', J3⟩ := hJ3
            have I3 := hid (I.out.keep K3 (fun h => hbx h))
            have J3 := hid J3
            have B3 := hid (B.out.trans (K3.below (B := w.heap.size) (fun j (h : j = by') => by rw [h]; have := E1.out; omega) B.out.size))
            clear hr K3 I J B k1 k2
            go_wp2
            go_roundw
            case rel => exact ⟨k + 1, l', by omega, by omega, by go_num, I3.out, J3.out, B3.out⟩
            case measure => simp [intOf]; omega
          · have I := hid I
            have J := hid J
            have B := hid B
            have hge : ¬ ((k : Int) < (n2 : Int)) ∨ (k : Int) < (n2 : Int) ∧ ¬ ((k : Int) < 30) := by omega
            rcases hge with hge3 | ⟨hge3, hge4⟩
            all_goals
              go_wp2_with fail
              refine (deliver_any I.out).mono ?_
              rintro _ W3 ⟨u1, rfl, hW3, _, I3, K3⟩
              obtain ⟨x1, y1, rfl⟩ := wakes_form hW3 (dlen l (mostOf most) I.out.le)
              have J3 := hid (J.out.keep K3 (fun h => hbx h.symm))
              have I3 := hid I3
              have B3 := hid (B.out.trans (K3.below (B := w.heap.size) (fun j (h : j = bx) => by rw [h, ← E1.out]; exact Nat.le_refl _) B.out.size))
              clear hW3 K3 I J B
              go_wp2_with fail
              refine (awake_any _).mono ?_
              rintro _ W4 ⟨rfl, K4⟩
              have I4 := hid (I3.out.keep K4 (fun h => h))
              have J4 := hid (J3.out.keep K4 (fun h => h))
              have B4 := hid (B3.out.trans (K4.below (B := w.heap.size) (fun _ h => h.elim) B3.out.size))
              clear I3 J3 B3 K4
              go_wp2_with fail
              refine (deliver_any J4.out).mono ?_
              rintro _ W5 ⟨u2, rfl, hW5, _, J5, K5⟩
              obtain ⟨x2, y2, rfl⟩ := wakes_form hW5 (dlen l2 (mostOf most) J4.out.le)
              have I5 := hid (I4.out.keep K5 (fun h => hbx h))
              have B5 := hid (B4.out.trans (K5.below (B := w.heap.size) (fun j (h : j = by') => by rw [h]; have := E1.out; omega) B4.out.size))
              clear hW5 K5 I4 J4 B4 J5
              go_wp2_with fail
              refine (deliver_any I5.out).mono ?_
              rintro _ W6 ⟨u3, rfl, hW6, _, _, K6⟩
              obtain ⟨x3, y3, rfl⟩ := wakes_form hW6 (dlen [] (mostOf most) (Nat.zero_le _))
              have B6 := hid (B5.out.trans (K6.below (B := w.heap.size) (fun j (h : j = bx) => by rw [h, ← E1.out]; exact Nat.le_refl _) B5.out.size))
              clear hW6 K6 I5 B5
              have m8 : ((mostOf most : Nat) : Int) ≤ 8 := by have := hM.out; omega
              by_cases c1 : most < 1
              · go_wp2
                go_ret
                exact ⟨rfl, B6.out⟩
              · by_cases c2 : 8 < most
                · go_wp2
                  go_ret
                  exact ⟨rfl, B6.out⟩
                · have c3 : (((mostOf most : Nat) : Int) == most) = true := by
                    unfold mostOf; rw [if_neg c2]; simp; omega
                  go_wp2
                  go_ret
                  exact ⟨rfl, B6.out⟩
end Go.Proofs.Yteobmdkghdjapaa
