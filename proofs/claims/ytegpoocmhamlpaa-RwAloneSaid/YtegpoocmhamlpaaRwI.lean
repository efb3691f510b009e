/- The walks of the reference's RW: hand whatever is there, Give, Drop. -/
import Derived.Test.YtegpoocmhamlpaaRwH
namespace Go.Proofs.Ytegpoocmhamlpaa
open Go Go.RowKit

section
variable {w0 w w' : World} {G : Nat → Prop} {b : Nat} {E : List On}

theorem thand_any (h : MNew 58 w0 w G b (tcs E)) (hn : E.length ≤ 1000) :
    Calls Try.prog 65 #[.pointer (some ⟨b, 0, none⟩)] w fun en w' => ∃ a m, en = .returned (.slice a (tho E).length m) ∧ OutM 58 w0 G w w' b (tcs ((tho E).foldl mv E)) a m (tho E) := by
  unfold tho
  by_cases hd : (tsk E true true).headD 0 = 0
  · rw [if_neg (fun h => h hd)]
    by_cases hl : (tsk E true false).length = 0
    · rw [if_pos hl]
      exact thand_read h hn hd hl
    · rw [if_neg hl]
      by_cases hr : (tsk E false true).length = 0
      · rw [if_pos hr]
        cases hx : tsk E true false with
        | nil => rw [hx] at hl; exact absurd rfl hl
        | cons x l => exact thand_write x l h hn hd hx hr
      · rw [if_neg hr]
        exact thand_busy h hn hd hl hr
  · rw [if_pos hd]
    exact thand_held h hn hd

/-- What a Give and a Drop answer, and what is there then. -/
def tgv (E : List On) (t : Int) (wr : Bool) : List Int × Int × List On :=
  if t < 1 then ([], 1, E) else if t ∈ E.map (·.1) ∧ (at3 E ((E.map (·.1)).idxOf t)).2.2 = true ∧ (at3 E ((E.map (·.1)).idxOf t)).2.1 = wr then
    (tho (E.eraseIdx ((E.map (·.1)).idxOf t)), 0, (tho (E.eraseIdx ((E.map (·.1)).idxOf t))).foldl mv (E.eraseIdx ((E.map (·.1)).idxOf t))) else ([], 11, E)
def tdr (E : List On) (t : Int) : List Int × Bool × List On :=
  if t ∈ E.map (·.1) ∧ (at3 E ((E.map (·.1)).idxOf t)).2.2 = false then
    (tho (E.eraseIdx ((E.map (·.1)).idxOf t)), true, (tho (E.eraseIdx ((E.map (·.1)).idxOf t))).foldl mv (E.eraseIdx ((E.map (·.1)).idxOf t))) else ([], false, E)

set_option maxRecDepth 10000 in
set_option maxHeartbeats 2000000 in
theorem tgive_any (t : Int) (wr : Bool) (h : MNew 58 w0 w G b (tcs E)) (hn : E.length ≤ 1000) {o : List Int} {e : Int} {E' : List On} (hb : tgv E t wr = (o, e, E')) :
    Calls Try.prog 52 #[.pointer (some ⟨b, 0, none⟩), .int .i64 t, .bool wr] w fun en w' => ∃ a m, en = .returned (.tuple #[.slice a o.length m, .int .i64 e]) ∧ OutM 58 w0 G w w' b (tcs E') a m o := by
  have HH := hid h
  unfold tgv at hb
  by_cases h1 : t < 1
  · rw [if_pos h1] at hb
    cases hb
    clear h
    go_enter Try.func52, Try.ntmps52
    go_wp2
    go_ret2
    exact ⟨_, _, rfl, OutM.none HH.out.stay⟩
  rw [if_neg h1] at hb
  by_cases hm : t ∈ E.map (·.1)
  · have hi : (E.map (·.1)).idxOf t < E.length := by simpa using List.idxOf_lt_length_iff.2 hm
    have IX := hid (idx_in hm)
    obtain ⟨i, hie⟩ : ∃ i, (E.map (·.1)).idxOf t = i := ⟨_, rfl⟩
    rw [hie] at hb hi IX
    obtain ⟨-, vs, v, -, -, -, o0, c0⟩ := h.tk
    obtain ⟨g, c, hv, hg, hmx, hc⟩ := o0.cells (by omega)
    obtain ⟨k1, k2, k3⟩ := hc i hi
    obtain ⟨p, hp⟩ : ∃ p, at3 E i = p := ⟨_, rfl⟩
    rw [hp] at hb k1 k2 k3
    obtain ⟨x, y, z⟩ := p
    dsimp only at hb k1 k2 k3
    rw [hv] at c0
    have hi0 : (0 : Int) ≤ (i : Int) := by omega
    have hi1 : (i : Int) < (E.length : Int) := by omega
    have hmm : (t ∈ E.map (·.1)) = True := eq_true hm
    have hE1 : (E.eraseIdx i).length ≤ 1000 := Nat.le_trans (List.length_eraseIdx_le _ _) hn
    unfold maxLen at hmx
    clear h o0 hv hc hp hie
    by_cases hz : z = true
    · by_cases hy : y = wr
      · rw [if_pos ⟨hm, hz, hy⟩] at hb
        cases hb
        subst hz hy
        clear hm hmm
        have e1 : (y != y) = false := by simp
        go_enter Try.func52, Try.ntmps52
        go_wp2_with fail
        refine (tat_any t HH.out hn).mono ?_
        rintro _ _ ⟨rfl, rfl⟩
        rw [IX.out]
        go_wp2_with fail
        refine (tout_any i hi HH.out hn).mono ?_
        rintro _ W5 ⟨rfl, G5, N5, J5, K5⟩
        have N5 := hid N5
        have JK := hid (And.intro J5 K5)
        clear J5 K5
        go_wp2_with fail
        refine (thand_any N5.out hE1).mono ?_
        rintro _ W6 ⟨a, m, rfl, hO⟩
        have O := hid (OutM.on JK.out.1 JK.out.2 hO)
        clear hO
        go_wp2
        go_ret2
        exact ⟨_, _, rfl, O.out⟩
      · rw [if_neg (fun h => hy h.2.2)] at hb
        cases hb
        subst hz
        rcases (by cases y <;> cases wr <;> simp_all : (y = true ∧ wr = false) ∨ (y = false ∧ wr = true)) with ⟨rfl, rfl⟩ | ⟨rfl, rfl⟩
        all_goals
          clear hm hmm hy
          go_enter Try.func52, Try.ntmps52
          go_wp2_with fail
          refine (tat_any t HH.out hn).mono ?_
          rintro _ _ ⟨rfl, rfl⟩
          rw [IX.out]
          go_wp2
          go_ret2
          exact ⟨_, _, rfl, OutM.none HH.out.stay⟩
    · have hz2 : z = false := by cases z <;> simp_all
      rw [if_neg (fun h => hz h.2.1)] at hb
      cases hb
      subst hz2
      clear hm hmm hz
      go_enter Try.func52, Try.ntmps52
      go_wp2_with fail
      refine (tat_any t HH.out hn).mono ?_
      rintro _ _ ⟨rfl, rfl⟩
      rw [IX.out]
      go_wp2
      go_ret2
      exact ⟨_, _, rfl, OutM.none HH.out.stay⟩
  · rw [if_neg (fun h => hm h.1)] at hb
    cases hb
    have IX := hid (idx_out hm)
    clear h hm
    go_enter Try.func52, Try.ntmps52
    go_wp2_with fail
    refine (tat_any t HH.out hn).mono ?_
    rintro _ _ ⟨rfl, rfl⟩
    rw [IX.out]
    go_wp2
    go_ret2
    exact ⟨_, _, rfl, OutM.none HH.out.stay⟩

set_option maxRecDepth 10000 in
set_option maxHeartbeats 2000000 in
theorem tdrop_any (t : Int) (h : MNew 58 w0 w G b (tcs E)) (hn : E.length ≤ 1000) {o : List Int} {e : Bool} {E' : List On} (hb : tdr E t = (o, e, E')) :
    Calls Try.prog 50 #[.pointer (some ⟨b, 0, none⟩), .int .i64 t] w fun en w' => ∃ a m, en = .returned (.tuple #[.slice a o.length m, .bool e]) ∧ OutM 58 w0 G w w' b (tcs E') a m o := by
  have HH := hid h
  unfold tdr at hb
  by_cases hm : t ∈ E.map (·.1)
  · have hi : (E.map (·.1)).idxOf t < E.length := by simpa using List.idxOf_lt_length_iff.2 hm
    have IX := hid (idx_in hm)
    obtain ⟨i, hie⟩ : ∃ i, (E.map (·.1)).idxOf t = i := ⟨_, rfl⟩
    rw [hie] at hb hi IX
    obtain ⟨-, vs, v, -, -, -, o0, c0⟩ := h.tk
    obtain ⟨g, c, hv, hg, hmx, hc⟩ := o0.cells (by omega)
    obtain ⟨k1, k2, k3⟩ := hc i hi
    obtain ⟨p, hp⟩ : ∃ p, at3 E i = p := ⟨_, rfl⟩
    rw [hp] at hb k1 k2 k3
    obtain ⟨x, y, z⟩ := p
    dsimp only at hb k1 k2 k3
    rw [hv] at c0
    have hi0 : (0 : Int) ≤ (i : Int) := by omega
    have hi1 : (i : Int) < (E.length : Int) := by omega
    have hE1 : (E.eraseIdx i).length ≤ 1000 := Nat.le_trans (List.length_eraseIdx_le _ _) hn
    unfold maxLen at hmx
    clear h o0 hv hc hp hie
    by_cases hz : z = false
    · rw [if_pos ⟨hm, hz⟩] at hb
      cases hb
      subst hz
      clear hm
      go_enter Try.func50, Try.ntmps50
      go_wp2_with fail
      refine (tat_any t HH.out hn).mono ?_
      rintro _ _ ⟨rfl, rfl⟩
      rw [IX.out]
      go_wp2_with fail
      refine (tout_any i hi HH.out hn).mono ?_
      rintro _ W5 ⟨rfl, G5, N5, J5, K5⟩
      have N5 := hid N5
      have JK := hid (And.intro J5 K5)
      clear J5 K5
      go_wp2_with fail
      refine (thand_any N5.out hE1).mono ?_
      rintro _ W6 ⟨a, m, rfl, hO⟩
      have O := hid (OutM.on JK.out.1 JK.out.2 hO)
      clear hO
      go_wp2
      go_ret2
      exact ⟨_, _, rfl, O.out⟩
    · have hz2 : z = true := by cases z <;> simp_all
      rw [if_neg (fun h => hz h.2)] at hb
      cases hb
      subst hz2
      clear hm hz
      go_enter Try.func50, Try.ntmps50
      go_wp2_with fail
      refine (tat_any t HH.out hn).mono ?_
      rintro _ _ ⟨rfl, rfl⟩
      rw [IX.out]
      go_wp2
      go_ret2
      exact ⟨_, _, rfl, OutM.none HH.out.stay⟩
  · rw [if_neg (fun h => hm h.1)] at hb
    cases hb
    have IX := hid (idx_out hm)
    clear h hm
    go_enter Try.func50, Try.ntmps50
    go_wp2_with fail
    refine (tat_any t HH.out hn).mono ?_
    rintro _ _ ⟨rfl, rfl⟩
    rw [IX.out]
    go_wp2
    go_ret2
    exact ⟨_, _, rfl, OutM.none HH.out.stay⟩
end
end Go.Proofs.Ytegpoocmhamlpaa
