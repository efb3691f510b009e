/- The walks of the reference's Cond: all that ever waited, and whether each of them still does. -/
import Derived.Test.YtcbnbnlioajadaaCndD
import Derived.Test.YtcbnbnlioajadaaMob
import Derived.Test.YtcbnbnlioajadaaBoo
namespace Go.Proofs.Ytcbnbnlioajadaa
open Go Go.RowKit

def Cel.cb (l : List Bool) : Cel := .li 4 1 l.length (flatB l)
def ecs (E : List (Int × Bool)) : List Cel := [.ci (E.map (·.1)), .cb (E.map (·.2))]

theorem ownI_cells {w : World} {v : Value} {l : List Int} (h : OwnI w v l) (hn : 0 < l.length) : ∃ g c, v = .slice (some ⟨g, 0, none⟩) l.length c ∧ g < w.heap.size ∧ (∀ o, w.frozen? ⟨g, o, none⟩ = false) ∧ l.length ≤ maxLen ∧ ∀ i, i < l.length → w.cell? ⟨g, i, none⟩ = some (.int .i64 (nth l i)) := by
  obtain ⟨h1, ⟨_, h2⟩ | ⟨g, cap, cur, rfl, _, hg, hn', hc, hs, ht⟩⟩ := h
  · omega
  · refine ⟨g, cap, rfl, lt_of_heap hg, fun o => by simp [World.frozen?, hg], Nat.le_trans hn' hc, fun i hi => ?_⟩
    have hv := flat1_get l i hi
    rw [cell_of_row w g i cur 3 (0, 0) hg]
    rw [← ht, List.getElem?_take] at hv
    split at hv
    · simpa using hv
    · cases hv

/-- What the two lists' cells hold. -/
structure EAt (w : World) (b : Nat) (E : List (Int × Bool)) (gA cA gH cH : Nat) : Prop where
  c0 : w.cell? ⟨b, 0, none⟩ = some (.slice (some ⟨gA, 0, none⟩) E.length cA)
  c1 : w.cell? ⟨b, 1, none⟩ = some (.slice (some ⟨gH, 0, none⟩) E.length cH)
  lA : gA < w.heap.size
  lH : gH < w.heap.size
  fH : ∀ o, w.frozen? ⟨gH, o, none⟩ = false
  a : ∀ i, i < E.length → w.cell? ⟨gA, i, none⟩ = some (.int .i64 (eA E i))
  h : ∀ i, i < E.length → w.cell? ⟨gH, i, none⟩ = some (.bool (eH E i))

theorem EAt.keep {F : Nat → Prop} {w w' : World} {b : Nat} {E : List (Int × Bool)} {gA cA gH cH : Nat} (h : EAt w b E gA cA gH cH) (hK : Keep F w w') (hb : ¬ F b) (hA : ¬ F gA) (hH : ¬ F gH) : EAt w' b E gA cA gH cH :=
  have lb := World.block_lt_of_cell? _ _ h.c0
  ⟨(hK.cell (p := ⟨b, 0, none⟩) lb hb).trans h.c0, (hK.cell (p := ⟨b, 1, none⟩) lb hb).trans h.c1, Nat.lt_of_lt_of_le h.lA hK.size, Nat.lt_of_lt_of_le h.lH hK.size, fun o => (hK.frozen (p := ⟨gH, o, none⟩) h.lH hH).trans (h.fH o), fun i hi => (hK.cell (p := ⟨gA, i, none⟩) h.lA hA).trans (h.a i hi), fun i hi => (hK.cell (p := ⟨gH, i, none⟩) h.lH hH).trans (h.h i hi)⟩

section
variable {w0 w : World} {G : Nat → Prop} {b : Nat} {E : List (Int × Bool)}

/-- Its slices. -/
theorem MNew.lists (h : MNew 29 w0 w G b (ecs E)) : G b ∧ ∃ vs vA vH, MobAt 29 w b (ecs E) vs ∧ (∀ v ∈ vs, ∀ k, v.ownBlock = some k → G k) ∧ vs[0]? = some vA ∧ vs[1]? = some vH ∧ OwnI w vA (E.map (·.1)) ∧ OwnB w vH (E.map (·.2)) ∧ vA.ownBlock ≠ some b ∧ vH.ownBlock ≠ some b ∧ (∀ k, vA.ownBlock = some k → G k ∧ vH.ownBlock ≠ some k) ∧ ∀ k, vH.ownBlock = some k → G k ∧ vA.ownBlock ≠ some k := by
  obtain ⟨⟨hGb, _, vs, hM, hvs⟩, _⟩ := h
  obtain ⟨vA, h0, _, hA, hAb⟩ := hM.list 0 (e := 3) (s := 1) (n := (E.map (·.1)).length) (xs := flat1 (E.map (·.1))) rfl
  obtain ⟨vH, h1, _, hH, hHb⟩ := hM.list 1 (e := 4) (s := 1) (n := (E.map (·.2)).length) (xs := flatB (E.map (·.2))) rfl
  exact ⟨hGb, vs, vA, vH, hM, hvs, h0, h1, hA, hH, hAb, hHb, fun k hk => ⟨hvs vA (List.mem_of_getElem? h0) k hk, hM.mob.apart 0 1 vA vH k h0 h1 (by decide) hk⟩, fun k hk => ⟨hvs vH (List.mem_of_getElem? h1) k hk, hM.mob.apart 1 0 vH vA k h1 h0 (by decide) hk⟩⟩

theorem MNew.eat (h : MNew 29 w0 w G b (ecs E)) (hn : 0 < E.length) : ∃ gA cA gH cH, EAt w b E gA cA gH cH ∧ G b ∧ G gA ∧ G gH ∧ b ≠ gH ∧ gA ≠ gH ∧ E.length ≤ maxLen := by
  obtain ⟨hGb, vs, vA, vH, hM, hvs, h0, h1, hA, hH, hAb, hHb, hAG, hHG⟩ := h.lists
  obtain ⟨gA, cA, rfl, lA, fA, _, cellA⟩ := ownI_cells hA (by rw [List.length_map]; exact hn)
  obtain ⟨gH, cH, rfl, lH, fH, hmx, cellH⟩ := hH.cells (by rw [List.length_map]; exact hn)
  have c0 := hM.cell h0
  have c1 := hM.cell h1
  simp only [List.length_map] at c0 c1 cellA cellH hmx
  exact ⟨gA, cA, gH, cH, ⟨c0, c1, lA, lH, fH, cellA, cellH⟩, hGb, (hAG gA rfl).1, (hHG gH rfl).1, fun e => hHb (by rw [e]; rfl), fun e => (hAG gA rfl).2 (by rw [e]; rfl), hmx⟩

theorem MNew.nils (h : MNew 29 w0 w G b (ecs [])) : ∃ a c a' c', w.cell? ⟨b, 0, none⟩ = some (.slice a 0 c) ∧ w.cell? ⟨b, 1, none⟩ = some (.slice a' 0 c') := by
  obtain ⟨hGb, vs, vA, vH, hM, hvs, h0, h1, hA, hH, _⟩ := h.lists
  obtain ⟨a, c, rfl⟩ := hA.form
  obtain ⟨a', c', rfl⟩ := hH.form
  exact ⟨a, c, a', c', hM.cell h0, hM.cell h1⟩

/-- One of those that wait is set or unset. -/
theorem MNew.set (h : MNew 29 w0 w G b (ecs E)) (i : Nat) (hi : i < E.length) (t : Int) (hA : eA E i = t) (u : Bool) {gA cA gH cH : Nat} (hE : EAt w b E gA cA gH cH) : StepM 29 w0 G w (w.setCell ⟨gH, i, none⟩ (.bool u)) b (ecs (E.set i (t, u))) := by
  obtain ⟨hGb, vs, vA, vH, hM, hvs, h0, h1, oA, oH, hAb, hHb, hAG, hHG⟩ := h.lists
  have e1 : vH = .slice (some ⟨gH, 0, none⟩) E.length cH := by
    have := hM.cell h1
    rw [hE.c1] at this
    exact (Option.some.inj this).symm
  subst e1
  have hK : Keep (fun k => (Value.slice (some ⟨gH, 0, none⟩) E.length cH).ownBlock = some k) w (w.setCell ⟨gH, i, none⟩ (.bool u)) := (Keep.refl (fun k => (Value.slice (some ⟨gH, 0, none⟩) E.length cH).ownBlock = some k) w).setCell (p := ⟨gH, i, none⟩) (.inl rfl) _
  have oH2 := oH.set i (by rw [List.length_map]; exact hi) u
  have hM2 := hM.elem (c' := .cb ((E.set i (t, u)).map (·.2))) h1 hK ⟨by rw [List.map_set]; exact oH2, hHb⟩
  have hcs : (ecs E).set 1 (.cb ((E.set i (t, u)).map (·.2))) = ecs (E.set i (t, u)) := by
    unfold ecs
    have : (E.set i (t, u)).map (·.1) = E.map (·.1) := by
      rw [List.map_set]
      have hx : (E.map (·.1))[i]? = some t := by
        rw [List.getElem?_map, List.getElem?_eq_getElem hi, ← hA, eA_get E i hi]; rfl
      obtain ⟨hj, he⟩ := List.getElem?_eq_some_iff.1 hx
      refine List.ext_getElem (by simp) fun j h1 h2 => ?_
      rw [List.getElem_set]
      split
      · rename_i e; subst e; exact he.symm
      · rfl
    rw [this]; rfl
  rw [hcs] at hM2
  exact h.on (AfterM.stored hM2 (hK.mono fun k _ e => (hHG k e).1) hGb fun v hv k hk => .inl (hvs v hv k hk))

set_option maxHeartbeats 1000000 in
theorem xdrop_no (t : Int) (hno : ∀ j, j < E.length → ¬ (eH E j = true ∧ eA E j = t)) (h : MNew 29 w0 w G b (ecs E)) (hn : E.length ≤ 1000) :
    Calls Try.prog 14 #[.pointer (some ⟨b, 0, none⟩), .int .i64 t] w fun en w' => en = .returned (.bool false) ∧ w = w' := by
  have NO := hid hno
  clear hno
  by_cases h0 : 0 < E.length
  · obtain ⟨gA, cA, gH, cH, hE, -, -, -, -, -, hmx⟩ := h.eat h0
    have c0 := hE.c0
    have c1 := hE.c1
    have HA := hid hE.a
    have HH := hid hE.h
    unfold maxLen at hmx
    clear hE h
    go_enter Try.func14, Try.ntmps14
    go_wp2
    go_loop [5] (fun i => ∃ k : Nat, k ≤ E.length ∧ i = .int .i64 k) (fun i => E.length - (intOf i).toNat)
    case atStart => exact ⟨0, by omega, rfl⟩
    case round =>
      obtain ⟨k, hk, rfl⟩ := hrel
      by_cases hlt : k < E.length
      · have k1 := HA.out k hlt
        have k2 := HH.out k hlt
        have NK := hid (NO.out k hlt)
        obtain ⟨x, hx⟩ : ∃ x, eA E k = x := ⟨_, rfl⟩
        obtain ⟨y, hy⟩ : ∃ y, eH E k = y := ⟨_, rfl⟩
        rw [hx] at k1 NK
        rw [hy] at k2 NK
        clear hx hy
        cases y
        · go_wp2
          go_round
          case rel => exact ⟨k + 1, by omega, by go_num⟩
          case measure => simp [intOf]; omega
        · have hxt : (x == t) = false := by simp only [beq_eq_false_iff_ne, ne_eq]; exact fun e => NK.out ⟨rfl, e⟩
          go_wp2
          go_round
          case rel => exact ⟨k + 1, by omega, by go_num⟩
          case measure => simp [intOf]; omega
      · go_wp2
        go_ret
        exact ⟨rfl, rfl⟩
  · have e : E = [] := List.eq_nil_of_length_eq_zero (by omega)
    subst e
    obtain ⟨a, c, a', c', c0, c1⟩ := h.nils
    clear h
    go_enter Try.func14, Try.ntmps14
    go_wp2
    refine wp_loop_once ?_
    go_wp2
    go_ret
    exact ⟨rfl, rfl⟩

set_option maxHeartbeats 1000000 in
theorem xdrop_in (t : Int) (i : Nat) (hi : i < E.length) (hA : eA E i = t) (hH : eH E i = true) (hno : ∀ j, j < i → ¬ (eH E j = true ∧ eA E j = t)) (h : MNew 29 w0 w G b (ecs E)) (hn : E.length ≤ 1000) :
    Calls Try.prog 14 #[.pointer (some ⟨b, 0, none⟩), .int .i64 t] w fun en w' => en = .returned (.bool true) ∧ StepM 29 w0 G w w' b (ecs (E.set i (t, false))) := by
  obtain ⟨gA, cA, gH, cH, hE, -, -, -, -, -, hmx⟩ := h.eat (by omega)
  have FIN := hid (h.set i hi t hA false hE)
  have NO := hid hno
  have c0 := hE.c0
  have c1 := hE.c1
  have fH := hE.fH i
  have HA := hid hE.a
  have HH := hid hE.h
  have EA := hid hA
  have EH := hid hH
  unfold maxLen at hmx
  clear hE h hno hA hH
  go_enter Try.func14, Try.ntmps14
  go_wp2
  go_loop [5] (fun i' => ∃ k : Nat, k ≤ i ∧ i' = .int .i64 k) (fun i' => E.length - (intOf i').toNat)
  case atStart => exact ⟨0, by omega, rfl⟩
  case round =>
    obtain ⟨k, hk, rfl⟩ := hrel
    have hlt : k < E.length := by omega
    have k1 := HA.out k hlt
    have k2 := HH.out k hlt
    by_cases hki : k = i
    · subst hki
      rw [EA.out] at k1
      rw [EH.out] at k2
      have htt : (t == t) = true := by simp
      go_wp2
      go_ret
      exact ⟨rfl, FIN.out⟩
    · have NK := hid (NO.out k (by omega))
      obtain ⟨x, hx⟩ : ∃ x, eA E k = x := ⟨_, rfl⟩
      obtain ⟨y, hy⟩ : ∃ y, eH E k = y := ⟨_, rfl⟩
      rw [hx] at k1 NK
      rw [hy] at k2 NK
      clear hx hy
      have hki' : k + 1 ≤ i := by omega
      clear hki
      cases y
      · go_wp2
        go_round
        case rel => exact ⟨k + 1, by omega, by go_num⟩
        case measure => simp [intOf]; omega
      · have hxt : (x == t) = false := by simp only [beq_eq_false_iff_ne, ne_eq]; exact fun e => NK.out ⟨rfl, e⟩
        go_wp2
        go_round
        case rel => exact ⟨k + 1, by omega, by go_num⟩
        case measure => simp [intOf]; omega
end
end Go.Proofs.Ytcbnbnlioajadaa
