/- The document's Bad. -/
import Derived.Test.YtknlhbbkjgkjpaaLexO
namespace Go.Proofs.Ytknlhbbkjgkjpaa
open Go Go.RowKit

/-- Where one is. -/
structure AtB (R : Sum (Nat × Nat) LS) (l : By) (line col : Nat) : Prop where
  ex : ∃ t : LS, t.line = line ∧ t.col = col ∧ lexL l.length l t = R
theorem AtB.step {R : Sum (Nat × Nat) LS} {l : By} {line col : Nat} (h : AtB R l line col) (hl : l ≠ []) :
    (stopL l = true ∧ R = .inl (line, col + 1)) ∨
    (stopL l = false ∧ ∃ d, wideL l = d ∧ 1 ≤ d ∧ d ≤ l.length ∧ ((gu l 0 = 10 ∧ AtB R (l.drop d) (line + 1) 0) ∨ (gu l 0 ≠ 10 ∧ AtB R (l.drop d) line (col + 1)))) := by
  obtain ⟨t, rfl, rfl, e⟩ := h.ex
  rcases bad_step l hl t e with h1 | ⟨h1, d, h2, h3, h4, t', h5, h6⟩
  · exact .inl h1
  · refine .inr ⟨h1, d, h2, h3, h4, ?_⟩
    rcases h6 with ⟨a, b, c⟩ | ⟨a, b, c⟩
    · exact .inl ⟨a, ⟨t', b, c, h5⟩⟩
    · exact .inr ⟨a, ⟨t', b, c, h5⟩⟩
theorem AtB.end {R : Sum (Nat × Nat) LS} {line col : Nat} (h : AtB R [] line col) : ∃ t, R = .inr t := by
  obtain ⟨t, _, _, e⟩ := h.ex
  rw [lexL_nil'] at e
  exact ⟨_, e.symm⟩
def badR : Sum (Nat × Nat) LS → Nat × Nat
  | .inl p => p
  | .inr _ => (0, 0)
theorem gu_drop (l : By) (i : Nat) : gu (l.drop i) 0 = (l.getD i 0).toNat := by
  unfold gu
  rw [List.getD_eq_getElem?_getD, List.getD_eq_getElem?_getD, List.getElem?_drop, Nat.add_zero]

set_option maxRecDepth 10000 in
set_option maxHeartbeats 1000000 in
theorem badr_any (l : By) (hl : l.length ≤ 4096) (w : World) (R : Sum (Nat × Nat) LS) (hR : lexL l.length l lex0 = R) :
    Calls Try.prog 26 #[.string (bs l)] w fun e w' => e = .returned (.tuple #[.int .i64 ((badR R).1 : Int), .int .i64 ((badR R).2 : Int)]) ∧ w = w' := by
  have bl := bs_size l
  have A0 : AtB R (l.drop 0) 1 0 := ⟨lex0, rfl, rfl, hR⟩
  clear hR
  go_enter Try.func26, Try.ntmps26
  go_wp2_with fail
  go_loopw [4, 5, 6] (fun a b c wr => ∃ line col i : Nat, AtB R (l.drop i) line col ∧ line ≤ i + 1 ∧ col ≤ i ∧ i ≤ l.length ∧ a = .int .i64 line ∧ b = .int .i64 col ∧ c = .int .i64 i ∧ w = wr) (fun _ _ c _ => l.length - (intOf c).toNat)
  case atStart => exact ⟨1, 0, 0, A0, by omega, by omega, by omega, rfl, rfl, rfl, by first | trivial | rfl⟩
  case round =>
    obtain ⟨line, col, i, hA, b1, b2, hi, rfl, rfl, rfl, rfl⟩ := hrel
    by_cases hlt : i < l.length
    · have hli : (i : Int) < (l.length : Int) := by omega
      have hli2 : (i : Int) ≤ (l.length : Int) := by omega
      have hne : l.drop i ≠ [] := by
        intro e
        have := congrArg List.length e
        rw [List.length_drop] at this
        simp at this
        omega
      have hs := hA.step hne
      have SI : ∀ h, ((bs l)[i]'h).toNat = (l.getD i 0).toNat := fun h => bs_get l i h
      have BE : (bs l).extract i l.length = bs (l.drop i) := by rw [bs_extract, List.take_length]
      have WD := hid (wide_any (l.drop i) (by rw [List.length_drop]; omega) w)
      have hg := gu_drop l i
      have hg2 := gu_lt (l.drop i) 0
      obtain ⟨y, hy⟩ : ∃ y, gu (l.drop i) 0 = y := ⟨_, rfl⟩
      unfold stopL at hs
      rw [← hg] at SI
      rw [hy] at hs hg2
      simp only [hy] at SI
      obtain ⟨d, hd⟩ : ∃ d, wideL (l.drop i) = d := ⟨_, rfl⟩
      rw [hd] at WD hs
      clear hg hy hd hA
      rcases hs with ⟨s1, s2⟩ | ⟨s1, d', rfl, d1, d2, s2⟩
      · subst s2
        have HA0 := hid A0
        clear A0
        have hs3 : d = 0 ∨ (d ≠ 0 ∧ y ≠ 10 ∧ y < 32) ∨ (d ≠ 0 ∧ y = 127) := by
          simp only [Bool.or_eq_true, Bool.and_eq_true, decide_eq_true_eq] at s1
          omega
        clear s1 hne
        rcases hs3 with rfl | ⟨e1, e2, e3⟩ | ⟨e1, rfl⟩
        · go_wp2_with fail
          refine WD.out.mono ?_
          rintro _ _ ⟨rfl, rfl⟩
          clear WD
          go_wp2_with fail
          go_ret2
          exact ⟨rfl, by first | trivial | rfl⟩
        · have f1 : ((d : Int) == 0) = false := by simp; omega
          have f2 : ((y : Int) != 10) = true := by simp; omega
          have f3 : (y : Int) < 32 := by omega
          clear e1 e2 e3
          go_wp2_with fail
          refine WD.out.mono ?_
          rintro _ _ ⟨rfl, rfl⟩
          clear WD
          go_wp2_with fail
          go_ret2
          exact ⟨rfl, by first | trivial | rfl⟩
        · have f1 : ((d : Int) == 0) = false := by simp; omega
          clear e1
          go_wp2_with fail
          refine WD.out.mono ?_
          rintro _ _ ⟨rfl, rfl⟩
          clear WD
          go_wp2_with fail
          go_ret2
          exact ⟨rfl, by first | trivial | rfl⟩
      · rw [List.length_drop] at d2
        simp only [Bool.or_eq_false_iff, Bool.and_eq_false_iff, decide_eq_false_iff_not] at s1
        obtain ⟨⟨e1, e2⟩, e3⟩ := s1
        have f1 : ((d : Int) == 0) = false := by simp; omega
        have HA0 := hid A0
        clear A0 hne e1
        rcases s2 with ⟨rfl, hA⟩ | ⟨e4, hA⟩
        · rw [List.drop_drop] at hA
          have HA := hid hA
          clear hA e2 e3
          go_wp2_with fail
          refine WD.out.mono ?_
          rintro _ _ ⟨rfl, rfl⟩
          clear WD
          go_wp2_with fail
          go_roundw
          case rel => exact ⟨line + 1, 0, i + d, HA.out, by omega, by omega, by omega, by go_num, rfl, by go_num, by first | trivial | rfl⟩
          case measure => simp [intOf]; omega
        · rw [List.drop_drop] at hA
          have HA := hid hA
          have f2 : ((y : Int) != 10) = true := by simp; omega
          have f2' : ((y : Int) == 10) = false := by simp; omega
          have f3 : ¬ (y : Int) < 32 := by omega
          have f4 : ((y : Int) == 127) = false := by simp; omega
          clear hA e2 e3 e4
          go_wp2_with fail
          refine WD.out.mono ?_
          rintro _ _ ⟨rfl, rfl⟩
          clear WD
          go_wp2_with fail
          go_roundw
          case rel => exact ⟨line, col + 1, i + d, HA.out, by omega, by omega, by omega, rfl, by go_num, by go_num, by first | trivial | rfl⟩
          case measure => simp [intOf]; omega
    · obtain rfl : i = l.length := by omega
      have hli : ¬ (l.length : Int) < (l.length : Int) := by omega
      rw [List.drop_length] at hA
      obtain ⟨t, rfl⟩ := hA.end
      clear hA
      go_wp2_with fail
      go_ret2
      exact ⟨rfl, by first | trivial | rfl⟩
end Go.Proofs.Ytknlhbbkjgkjpaa
