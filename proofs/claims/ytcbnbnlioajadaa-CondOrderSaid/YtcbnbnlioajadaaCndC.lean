/- The walk of CondOrder. -/
import Derived.Test.YtcbnbnlioajadaaCndB
namespace Go.Proofs.Ytcbnbnlioajadaa
open Go Go.RowKit

theorem drop_upTo (a p : Nat) (h : p < a) : (upTo a).drop p = ((p : Int) + 1) :: (upTo a).drop (p + 1) := by
  rw [List.drop_eq_getElem_cons (by rw [upTo_length]; exact h)]
  simp [upTo]
theorem drop_none (a p : Nat) (h : a ≤ p) : (upTo a).drop p = [] := List.drop_eq_nil_of_le (by rw [upTo_length]; exact h)

/-- 101, 102, .., q of them. -/
def hund (q : Nat) : List Int := (List.range q).map fun (i : Nat) => (100 : Int) + (i + 1)
theorem hund_length (q : Nat) : (hund q).length = q := by simp [hund]
theorem hund_succ (q : Nat) : hund q ++ [(100 : Int) + (q + 1)] = hund (q + 1) := by simp [hund, List.range_succ]
theorem hund_in (q : Nat) (t : Int) : t ∈ hund q ↔ 101 ≤ t ∧ t ≤ 100 + q := by
  simp only [hund, List.mem_map, List.mem_range]
  constructor
  · rintro ⟨i, hi, rfl⟩; omega
  · intro h; exact ⟨(t - 101).toNat, by omega, by omega⟩

/-- s+1, s+2, .., q of them. -/
def from' (s q : Nat) : List Int := (List.range q).map fun (i : Nat) => (s : Int) + 1 + i
theorem from_length (s q : Nat) : (from' s q).length = q := by simp [from']
theorem from_succ (s q : Nat) : from' s q ++ [(s : Int) + 1 + q] = from' s (q + 1) := by simp [from', List.range_succ]
theorem from_all (a s : Nat) : from' s (a - s) = (upTo a).drop s := by
  refine List.ext_getElem (by simp [from_length, upTo_length]) fun i h1 h2 => ?_
  simp [from', upTo]
  omega

set_option maxRecDepth 10000 in
set_option maxHeartbeats 8000000 in
theorem walk_CondOrder (w : World) (n : Int) (hn : (Lit.int .u8 n).wf = true) (m : Int) (hm : (Lit.int .u8 m).wf = true) (k : Int) (hk : (Lit.int .u8 k).wf = true) :
    Calls Try.prog 4 #[.int .u8 n, .int .u8 m, .int .u8 k] w fun en w' => en = .returned (.bool true) ∧ Below w.heap.size w w' := by
  obtain ⟨A, hA, hA10⟩ := u8_mod n 10 hn (by decide)
  obtain ⟨B, hB, hB10⟩ := u8_mod m 10 hm (by decide)
  obtain ⟨S, hS, hS10⟩ := u8_mod k 10 hk (by decide)
  go_enter Try.func4, Try.ntmps4
  go_wp2_with fail
  refine (cnew_any w).mono ?_
  rintro e W1 ⟨rfl, G1, N1⟩
  have N1 := hid N1
  obtain ⟨b, hb⟩ : ∃ x, w.heap.size = x := ⟨_, rfl⟩
  rw [hb] at N1 ⊢
  go_wp2_with fail
  clear hA hB hS hn hm hk
  -- they wait
  go_loopw [11] (fun i wr => ∃ (q : Nat) (G : Nat → Prop), q ≤ A ∧ i = .int .i64 (q + 1) ∧ ONew 63 w wr G b [] (upTo q)) (fun i _ => 60 - (intOf i).toNat)
  case atStart => exact ⟨0, G1, Nat.zero_le _, rfl, N1.out⟩
  case round =>
    obtain ⟨q, G, hq, rfl, hI⟩ := hrel
    have I := hid hI
    clear hI N1
    by_cases hlt : q < A
    · have hlt' : (q : Int) + 1 ≤ (A : Int) := by omega
      go_wp2_with fail
      refine (cwait_any (q + 1) I.out (by rw [upTo_length]; omega) (cwt_on (by omega) (by rw [upTo_in]; omega))).mono ?_
      rintro e W4 ⟨rfl, G4, N4, -, -⟩
      rw [upTo_succ] at N4
      have N4 := hid N4
      go_wp2_with fail
      go_roundw
      case rel => exact ⟨q + 1, G4, by omega, by go_num, N4.out⟩
      case measure => simp [intOf]; omega
    obtain rfl : q = A := by omega
    have hlt' : ¬ ((q : Int) + 1 ≤ (q : Int)) := by omega
    have I0 : Hid (ONew 63 w wr G b [] ((upTo q).drop 0)) := I
    clear I
    go_wp2_with fail
    -- some are signalled
    go_loopw [12] (fun i wr => ∃ (p : Nat) (G : Nat → Prop), p ≤ S ∧ i = .int .i64 (p + 1) ∧ ONew 63 w wr G b [] ((upTo q).drop p)) (fun i _ => 60 - (intOf i).toNat)
    case atStart => exact ⟨0, G, Nat.zero_le _, rfl, I0.out⟩
    case round =>
      obtain ⟨p, G, hp, rfl, hI⟩ := hrel
      have I := hid hI
      clear hI I0
      by_cases hlt : p < S
      · have hlt' : (p : Int) + 1 ≤ (S : Int) := by omega
        by_cases hpq : p < q
        · have hpq' : (p : Int) + 1 ≤ (q : Int) := by omega
          have J := I.out
          rw [drop_upTo q p hpq] at J
          have J := hid J
          go_wp2_with fail
          refine (csignal_cons _ J.out (by rw [List.length_drop, upTo_length]; omega)).mono ?_
          rintro e W4 ⟨rfl, G4, N4, -, -⟩
          have N4 := hid N4
          clear I J
          go_wp2_with fail
          go_roundw
          case rel => exact ⟨p + 1, G4, by omega, by go_num, N4.out⟩
          case measure => simp [intOf]; omega
        · have hpq' : ¬ ((p : Int) + 1 ≤ (q : Int)) := by omega
          have J := I.out
          rw [drop_none q p (by omega), ← drop_none q (p + 1) (by omega)] at J
          have J' := hid J
          rw [drop_none q (p + 1) (by omega)] at J
          have J := hid J
          go_wp2_with fail
          refine (csignal_nil J.out).mono ?_
          rintro e _ ⟨rfl, rfl⟩
          clear I J
          go_wp2_with fail
          go_roundw
          case rel => exact ⟨p + 1, G, by omega, by go_num, J'.out⟩
          case measure => simp [intOf]; omega
      obtain rfl : p = S := by omega
      have hlt' : ¬ ((p : Int) + 1 ≤ (p : Int)) := by omega
      have I0 : Hid (ONew 63 w wr G b [] ((upTo q).drop p ++ hund 0)) := by have := I.out; rw [← List.append_nil ((upTo q).drop p)] at this; exact this
      clear I
      go_wp2_with fail
      -- others wait
      go_loopw [15] (fun i wr => ∃ (r : Nat) (G : Nat → Prop), r ≤ B ∧ i = .int .i64 (r + 1) ∧ ONew 63 w wr G b [] ((upTo q).drop p ++ hund r)) (fun i _ => 60 - (intOf i).toNat)
      case atStart => exact ⟨0, G, Nat.zero_le _, rfl, I0.out⟩
      case round =>
        obtain ⟨r, G, hr, rfl, hI⟩ := hrel
        have I := hid hI
        clear hI I0
        by_cases hlt : r < B
        · have hlt' : (r : Int) + 1 ≤ (B : Int) := by omega
          have hno : (100 : Int) + (r + 1) ∉ (upTo q).drop p ++ hund r := by
            intro h
            rcases List.mem_append.1 h with h | h
            · have := (upTo_in q _).1 (List.mem_of_mem_drop h); omega
            · have := (hund_in r _).1 h; omega
          have hno := hid hno
          go_wp2_with fail
          refine (cwait_any (100 + (r + 1)) I.out (by rw [List.length_append, List.length_drop, upTo_length, hund_length]; omega) (cwt_on (by omega) hno.out)).mono ?_
          rintro e W4 ⟨rfl, G4, N4, -, -⟩
          rw [List.append_assoc, hund_succ] at N4
          have N4 := hid N4
          clear I
          go_wp2_with fail
          go_roundw
          case rel => exact ⟨r + 1, G4, by omega, by go_num, N4.out⟩
          case measure => simp [intOf]; omega
        obtain rfl : r = B := by omega
        have hlt' : ¬ ((r : Int) + 1 ≤ (r : Int)) := by omega
        go_wp2_with fail
        -- what is to come: the rest of the first
        go_loopw [16, 17] (fun v i wr => ∃ (x : Nat), x ≤ q - p ∧ i = .int .i64 (p + 1 + x) ∧ ONew 63 w wr G b [] ((upTo q).drop p ++ hund r) ∧ OwnI wr v (from' p x) ∧ ∀ k, v.ownBlock = some k → ¬ G k ∧ w.heap.size ≤ k) (fun _ i _ => 60 - (intOf i).toNat)
        case atStart =>
          refine ⟨0, Nat.zero_le _, by simp, I.out.keep ((Keep.refl (fun _ => False) wr).alloc _) (fun _ h => h.elim), made_rowI wr, fun k hk => ?_⟩
          have hk : wr.heap.size = k := Option.some.inj hk
          exact ⟨fun h => by have := I.out.1.2.1 _ h; omega, by rw [← hk]; exact I.out.2.2.size⟩
        case round =>
          obtain ⟨x, hx, rfl, hI, hO, hD⟩ := hrel
          obtain ⟨a0, n0, rfl⟩ := hO.form
          have O := hid hO
          have D := hid hD
          have I4 := hid hI
          have L := hid (from_length p x)
          clear hI hO hD I
          by_cases hlt : x < q - p
          · have hlt' : (p : Int) + 1 + x ≤ (q : Int) := by omega
            have K6 : Keep (fun _ => False) wr (wr.alloc (.cells #[.int .i64 (p + 1 + x)] 3)) := (Keep.refl _ _).alloc _
            have hown := O.out.keep K6 (fun _ _ h => h)
            have hsrc := one_srcI wr (p + 1 + x)
            go_wp2_with (at_builtin; refine wpList_plain rfl (fun K hK => wp_append_ints _ (.tmp 87) (.tmp 89) rfl (.slice a0 (from' p x).length n0) (from' p x) rfl hown _ 1 _ rfl hsrc (by rw [L.out]; omega) ?_))
            intro v1 w1 o1 f1 k1
            rw [from_succ] at o1
            obtain ⟨a1, n1, hv1⟩ := o1.form
            generalize (from' p (x + 1)).length = m1 at hv1
            subst hv1
            refine hK _ _ ?_
            clear hK K
            have O7 := hid o1
            have K7 : Keep (fun k => (Value.slice a0 (from' p x).length n0).ownBlock = some k) wr w1 := (K6.mono fun _ _ h => h.elim).trans k1
            have N7 := hid (I4.out.keep K7 fun k hk => ⟨(D.out k hk).2, (D.out k hk).1⟩)
            have D7 : Hid (∀ k, (Value.slice a1 m1 n1).ownBlock = some k → ¬ G k ∧ w.heap.size ≤ k) := fun k hk => (f1 k hk).elim (D.out k) fun h => ⟨fun hg => by have := I4.out.1.2.1 k hg; omega, by have := I4.out.2.2.size; omega⟩
            clear o1 f1 k1 K6 K7 hown hsrc O D I4
            go_wp2_with fail
            go_roundw
            case rel => exact ⟨x + 1, by omega, by go_num, N7.out, O7.out, D7.out⟩
            case measure => simp [intOf]; omega
          obtain rfl : x = q - p := by omega
          have hlt' : ¬ ((p : Int) + 1 + (q - p : Nat) ≤ (q : Int)) := by omega
          have hwant := hid (from_all q p)
          have gen : ∀ l', from' p (q - p) = l' → OwnI wr (.slice a0 (from' p (q - p)).length n0) l' := by intro l' e; subst e; exact O.out
          have O0 := hid (gen ((upTo q).drop p ++ hund 0) (by rw [hwant.out]; simp [hund]))
          clear gen hwant
          generalize hfl : (from' p (q - p)).length = fl at O0 D
          clear O hfl
          go_wp2_with fail
          -- and the others
          go_loopw [16, 18] (fun v i wr => ∃ (x : Nat), x ≤ r ∧ i = .int .i64 (x + 1) ∧ ONew 63 w wr G b [] ((upTo q).drop p ++ hund r) ∧ OwnI wr v ((upTo q).drop p ++ hund x) ∧ ∀ k, v.ownBlock = some k → ¬ G k ∧ w.heap.size ≤ k) (fun _ i _ => 60 - (intOf i).toNat)
          case atStart => exact ⟨0, Nat.zero_le _, rfl, I4.out, O0.out, D.out⟩
          case round =>
            obtain ⟨x, hx, rfl, hI, hO, hD⟩ := hrel
            obtain ⟨a0, n0, hv0⟩ := hO.form
            generalize ((upTo q).drop p ++ hund x).length = m0 at hv0
            subst hv0
            have O := hid hO
            have D := hid hD
            have I := hid hI
            have L : Hid (((upTo q).drop p ++ hund x).length ≤ 30) := hid (by rw [List.length_append, List.length_drop, upTo_length, hund_length]; omega)
            clear hI hO hD I4 O0
            by_cases hlt : x < r
            · have hlt' : (x : Int) + 1 ≤ (r : Int) := by omega
              have K6 : Keep (fun _ => False) wr (wr.alloc (.cells #[.int .i64 (100 + (x + 1))] 3)) := (Keep.refl _ _).alloc _
              have hown := O.out.keep K6 (fun _ _ h => h)
              have hsrc := one_srcI wr (100 + (x + 1))
              go_wp2_with (at_builtin; refine wpList_plain rfl (fun K hK => wp_append_ints _ (.tmp 96) (.tmp 99) rfl (.slice a0 m0 n0) ((upTo q).drop p ++ hund x) rfl hown _ 1 _ rfl hsrc (by have := L.out; omega) ?_))
              intro v1 w1 o1 f1 k1
              try rw [List.append_assoc] at o1
              rw [hund_succ] at o1
              obtain ⟨a1, n1, hv1⟩ := o1.form
              generalize ((upTo q).drop p ++ hund (x + 1)).length = m1 at hv1
              subst hv1
              refine hK _ _ ?_
              clear hK K
              have O7 := hid o1
              have K7 : Keep (fun k => (Value.slice a0 m0 n0).ownBlock = some k) wr w1 := (K6.mono fun _ _ h => h.elim).trans k1
              have N7 := hid (I.out.keep K7 fun k hk => ⟨(D.out k hk).2, (D.out k hk).1⟩)
              have D7 : Hid (∀ k, (Value.slice a1 m1 n1).ownBlock = some k → ¬ G k ∧ w.heap.size ≤ k) := fun k hk => (f1 k hk).elim (D.out k) fun h => ⟨fun hg => by have := I.out.1.2.1 k hg; omega, by have := I.out.2.2.size; omega⟩
              clear o1 f1 k1 K6 K7 hown hsrc O D I
              go_wp2_with fail
              go_roundw
              case rel => exact ⟨x + 1, by omega, by go_num, N7.out, O7.out, D7.out⟩
              case measure => simp [intOf]; omega
            obtain rfl : x = r := by omega
            have hlt' : ¬ ((x : Int) + 1 ≤ (x : Int)) := by omega
            generalize (upTo q).drop p ++ hund x = all at *
            go_wp2_with fail
            refine (cbroad_any I.out (by have := L.out; omega)).mono ?_
            rintro e W5 ⟨a5, m5, rfl, R5, K5, G5, N5, J5, Q5⟩
            have O5 := hid (O.out.keep K5 (fun k hk => (D.out k hk).1))
            have R5 := hid R5
            have N5 := hid N5
            clear K5 J5 Q5 O D I
            go_wp2_with fail
            refine (cawake_any W5).mono ?_
            rintro e W6 ⟨rfl, K6⟩
            have N6 := hid (N5.out.keep K6 fun _ h => h.elim)
            have R6 := hid (R5.out.keep K6 fun _ _ h => h)
            have O6 := hid (O5.out.keep K6 fun _ _ h => h)
            clear K6
            go_wp2_with fail
            refine (ints_any R6.out O6.out.reads).mono ?_
            rintro e W9 ⟨rfl, K9⟩
            have N9 := hid (N6.out.keep K9 fun _ h => h.elim)
            rw [show decide (all = all) = true from decide_eq_true rfl]
            clear K9
            go_wp2_with fail
            refine (cwaits_any N9.out (by decide)).mono ?_
            rintro e W10 ⟨a10, n10, rfl, -, N10, -⟩
            have N10 := hid N10
            go_wp2_with fail
            refine (cbroad_any N10.out (by decide)).mono ?_
            rintro e W11 ⟨a11, m11, rfl, -, -, G11, N11, -, -⟩
            have N11 := hid N11
            go_wp2
            go_ret
            exact ⟨rfl, N11.out.2.2.below (fun _ h => h.elim) (Nat.le_refl _)⟩
end Go.Proofs.Ytcbnbnlioajadaa
