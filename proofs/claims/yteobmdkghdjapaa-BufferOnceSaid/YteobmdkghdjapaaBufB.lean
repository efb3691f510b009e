/- The walks of package buffer: New, Put, Len, Deliver, each over a list of wake-ups. -/
import Derived.Test.YteobmdkghdjapaaBufA
namespace Go.Proofs.Yteobmdkghdjapaa
open Go.RowKit

def at2 (l : List (Int × Int)) (i : Nat) : Int × Int := l.getD i (0, 0)

/-- Block b is a buffer that holds l, of at most m. -/
structure IsBuf (w : World) (b : Nat) (l : List (Int × Int)) (m : Nat) : Prop where
  le : l.length ≤ m
  le8 : m ≤ 8
  row : ∃ c, w.heap[b]? = some (.cells c 57 (0, 0))
  task : ∀ i, i < 8 → w.cell? ⟨b, i * 2, none⟩ = some (.int .i64 (at2 l i).1)
  err : ∀ i, i < 8 → w.cell? ⟨b, i * 2 + 1, none⟩ = some (.int .i64 (at2 l i).2)
  size : w.cell? ⟨b, 16, none⟩ = some (.int .i64 l.length)
  most : w.cell? ⟨b, 17, none⟩ = some (.int .i64 m)

theorem IsBuf.lt {w : World} {b : Nat} {l : List (Int × Int)} {m : Nat} (h : IsBuf w b l m) : b < w.heap.size := by
  obtain ⟨c, hc⟩ := h.row; exact lt_of_heap hc

theorem IsBuf.fro {w : World} {b : Nat} {l : List (Int × Int)} {m : Nat} (h : IsBuf w b l m) (o : Nat) : w.frozen? ⟨b, o, none⟩ = false := by
  obtain ⟨c, hc⟩ := h.row
  simp [World.frozen?, hc]

theorem IsBuf.of_block {w w' : World} {b : Nat} {l : List (Int × Int)} {m : Nat} (h : IsBuf w b l m) (e : w'.heap[b]? = w.heap[b]?) : IsBuf w' b l m := by
  have c : ∀ o, w'.cell? ⟨b, o, none⟩ = w.cell? ⟨b, o, none⟩ := fun o => World.cell?_of_block (a := ⟨b, o, none⟩) e
  exact ⟨h.le, h.le8, by rw [e]; exact h.row, fun i hi => (c _).trans (h.task i hi), fun i hi => (c _).trans (h.err i hi), (c _).trans h.size, (c _).trans h.most⟩

theorem IsBuf.keep {F : Nat → Prop} {w w' : World} {b : Nat} {l : List (Int × Int)} {m : Nat} (h : IsBuf w b l m) (hK : Keep F w w') (hF : ¬ F b) : IsBuf w' b l m :=
  h.of_block (hK.block b h.lt hF)

def bufCells (m : Int) : Array Value := #[.int .i64 0, .int .i64 0, .int .i64 0, .int .i64 0, .int .i64 0, .int .i64 0, .int .i64 0, .int .i64 0, .int .i64 0, .int .i64 0, .int .i64 0, .int .i64 0, .int .i64 0, .int .i64 0, .int .i64 0, .int .i64 0, .int .i64 0, .int .i64 m]

theorem IsBuf.new (w : World) (m : Nat) (h : m ≤ 8) : IsBuf (w.alloc (.cells (bufCells m) 57)) w.heap.size [] m := by
  refine ⟨Nat.zero_le _, h, ⟨_, heap_alloc_new w _⟩, fun i hi => ?_, fun i hi => ?_, ?_, ?_⟩
  · rw [World.cell?_alloc_new]
    have : i = 0 ∨ i = 1 ∨ i = 2 ∨ i = 3 ∨ i = 4 ∨ i = 5 ∨ i = 6 ∨ i = 7 := by omega
    rcases this with rfl | rfl | rfl | rfl | rfl | rfl | rfl | rfl <;> rfl
  · rw [World.cell?_alloc_new]
    have : i = 0 ∨ i = 1 ∨ i = 2 ∨ i = 3 ∨ i = 4 ∨ i = 5 ∨ i = 6 ∨ i = 7 := by omega
    rcases this with rfl | rfl | rfl | rfl | rfl | rfl | rfl | rfl <;> rfl
  · rw [World.cell?_alloc_new]; rfl
  · rw [World.cell?_alloc_new]; rfl

/-- How many there may be. -/
def mostOf (a : Int) : Nat := if 8 < a then 8 else a.toNat

theorem mostOf_le (a : Int) : mostOf a ≤ 8 := by unfold mostOf; split <;> omega

set_option maxHeartbeats 400000 in
theorem new_any (a : Int) (w : World) :
    Calls Try.prog 12 #[.int .i64 a] w fun e w' => e = .returned (.pointer (some ⟨w.heap.size, 0, none⟩)) ∧ IsBuf w' w.heap.size [] (mostOf a) ∧ Keep (fun _ => False) w w' := by
  have fin : ∀ c : Int, c = (mostOf a : Nat) → IsBuf (w.alloc (.cells (bufCells c) 57)) w.heap.size [] (mostOf a) ∧ Keep (fun _ => False) w (w.alloc (.cells (bufCells c) 57)) := by
    intro c hc
    subst hc
    exact ⟨IsBuf.new w _ (mostOf_le a), (Keep.refl _ _).alloc _⟩
  unfold bufCells at fin
  have F := hid fin
  clear fin
  go_enter Try.func12, Try.ntmps12
  go_wp2
  · go_ret
    exact ⟨rfl, F.out 8 (by unfold mostOf; rw [if_pos (by omega)]; rfl)⟩
  · go_ret
    exact ⟨rfl, F.out a (by unfold mostOf; split <;> omega)⟩
  · go_ret
    exact ⟨rfl, F.out 0 (by unfold mostOf; split <;> omega)⟩

set_option maxHeartbeats 400000 in
theorem len_any {b : Nat} {l : List (Int × Int)} {m : Nat} {w : World} (h : IsBuf w b l m) :
    Calls Try.prog 16 #[.pointer (some ⟨b, 0, none⟩)] w fun e w' => e = .returned (.int .i64 l.length) ∧ w = w' := by
  have h1 := h.size
  clear h
  go_enter Try.func16, Try.ntmps16
  go_wp2
  go_ret
  exact ⟨rfl, rfl⟩

set_option maxHeartbeats 400000 in
theorem len_nil (w : World) : Calls Try.prog 16 #[.pointer none] w fun e w' => e = .returned (.int .i64 0) ∧ w = w' := by
  go_enter Try.func16, Try.ntmps16
  go_wp2
  go_ret
  exact ⟨rfl, rfl⟩

/-- Behind the store of one more. -/
theorem IsBuf.put {w : World} {b : Nat} {l : List (Int × Int)} {m : Nat} (h : IsBuf w b l m) (hlt : l.length < m) (t e : Int) :
    IsBuf (((w.setCell ⟨b, l.length * 2, none⟩ (.int .i64 t)).setCell ⟨b, l.length * 2 + 1, none⟩ (.int .i64 e)).setCell ⟨b, 16, none⟩ (.int .i64 (l.length + 1))) b (l ++ [(t, e)]) m := by
  have h8 := h.le8
  have hle := h.le
  obtain ⟨c, hc⟩ := h.row
  have at_lt : ∀ i, i < l.length → at2 (l ++ [(t, e)]) i = at2 l i := fun i hi => by simp [at2, List.getD, List.getElem?_append_left hi]
  have at_eq : at2 (l ++ [(t, e)]) l.length = (t, e) := by simp [at2, List.getD]
  have at_gt : ∀ i, l.length < i → at2 (l ++ [(t, e)]) i = at2 l i := fun i hi => by
    simp only [at2, List.getD]
    rw [List.getElem?_eq_none (by simp <;> omega), List.getElem?_eq_none (by omega)]
  refine ⟨by simp; omega, h8, ?_, fun i hi => ?_, fun i hi => ?_, ?_, ?_⟩
  · refine ⟨((c.setIfInBounds (l.length * 2) (.int .i64 t)).setIfInBounds (l.length * 2 + 1) (.int .i64 e)).setIfInBounds 16 (.int .i64 (l.length + 1)), ?_⟩
    simp [World.setCell, Array.getElem?_modify, hc]
  · rw [World.cell?_setCell_other _ _ _ _ (by simp <;> omega), World.cell?_setCell_other _ _ _ _ (by simp <;> omega)]
    rcases Nat.lt_trichotomy i l.length with h1 | h1 | h1
    · rw [World.cell?_setCell_other _ _ _ _ (by simp <;> omega), h.task i hi, at_lt i h1]
    · subst h1
      rw [World.cell?_setCell_same _ _ _ (h.task _ hi), at_eq]
    · rw [World.cell?_setCell_other _ _ _ _ (by simp <;> omega), h.task i hi, at_gt i h1]
  · rw [World.cell?_setCell_other _ _ _ _ (by simp <;> omega)]
    rcases Nat.lt_trichotomy i l.length with h1 | h1 | h1
    · rw [World.cell?_setCell_other _ _ _ _ (by simp <;> omega), World.cell?_setCell_other _ _ _ _ (by simp <;> omega), h.err i hi, at_lt i h1]
    · subst h1
      rw [World.cell?_setCell_same _ _ _ (by rw [World.cell?_setCell_other _ _ _ _ (by simp)]; exact h.err _ hi), at_eq]
    · rw [World.cell?_setCell_other _ _ _ _ (by simp <;> omega), World.cell?_setCell_other _ _ _ _ (by simp <;> omega), h.err i hi, at_gt i h1]
  · rw [World.cell?_setCell_same _ _ _ (by rw [World.cell?_setCell_other _ _ _ _ (by simp <;> omega), World.cell?_setCell_other _ _ _ _ (by simp <;> omega)]; exact h.size)]
    simp
  · rw [World.cell?_setCell_other _ _ _ _ (by simp), World.cell?_setCell_other _ _ _ _ (by simp <;> omega), World.cell?_setCell_other _ _ _ _ (by simp <;> omega), h.most]

def putRegion : List Nat := [0,0,0,0,0,0,1,0,0,0,1,0,0,0,0,0,0,0,0,0,1,0,0,2,0]

set_option maxHeartbeats 400000 in
theorem put_full {b : Nat} {l : List (Int × Int)} {m : Nat} {w : World} (t e : Int) (h : IsBuf w b l m) (hq : l.length = m) :
    Calls Try.prog 14 #[.pointer (some ⟨b, 0, none⟩), .agg #[.int .i64 t, .int .i64 e]] w fun en w' => en = .returned (.bool false) ∧ Keep (fun _ => False) w w' := by
  have hb : b < w.heap.size := h.lt
  have h1 := h.size
  have h2 := h.most
  have hq' : ((l.length : Int) == (m : Int)) = true := by simp [hq]
  clear h hq
  go_enter Try.func14, Try.ntmps14
  go_wp2
  refine wp_region_text putRegion (fun _ => True) (by kernel_rfl) (by kernel_rfl) trivial ?_
  unfold putRegion
  repeat (first
    | (refine' wpT_calm (v := _) (by rfl) (fun W hW => ?_) ?_; rotate_left
       · ((try dsimp only at hW); go_simp; first | done | rfl)
       simp only [Act.put, List.setIfInBounds_toArray, List.set_cons_zero, List.set_cons_succ])
    | (refine' wpT_reads (v := _) (by rfl) ?_ ?_; rotate_left
       · (go_simp; first | done | rfl)
       simp only [Act.put, List.setIfInBounds_toArray, List.set_cons_zero, List.set_cons_succ])
    | (refine wpT_skip (by rfl) rfl ?_; simp only [Act.put, List.setIfInBounds_toArray, List.set_cons_zero, List.set_cons_succ])
    | (refine wpT_does (by rfl) (fun K hK => ?_); go_simp; refine hK _ _ ?_ ?_
       · (trivial)
       clear hK K; try simp only [Act.put, List.setIfInBounds_toArray, List.set_cons_zero, List.set_cons_succ])
    | (refine wpT_last (by rfl) (fun K hK => ?_); go_simp; refine hK _ _ ?_; clear hK K)
    | (refine wpT_nil ?_))
  go_wp2
  go_ret
  exact ⟨rfl, ((Keep.refl _ _).alloc _).drew⟩


/-- What a Put comes to. -/
def PutAns (b : Nat) (l : List (Int × Int)) (m : Nat) (t e : Int) (w : World) (en : Ending) (w' : World) : Prop :=
  ∃ v : Bool, en = .returned (.bool v) ∧ Keep (fun k => k = b) w w' ∧ ((v = false ∧ (l.length = m ∨ ∃ i, i < l.length ∧ (at2 l i).1 = t) ∧ IsBuf w' b l m) ∨ (v = true ∧ l.length < m ∧ (∀ i, i < l.length → (at2 l i).1 ≠ t) ∧ IsBuf w' b (l ++ [(t, e)]) m))

set_option maxHeartbeats 400000 in
theorem put_room {b : Nat} {l : List (Int × Int)} {m : Nat} {w : World} (t e : Int) (h : IsBuf w b l m) (hq : l.length < m) :
    Calls Try.prog 14 #[.pointer (some ⟨b, 0, none⟩), .agg #[.int .i64 t, .int .i64 e]] w (PutAns b l m t e w) := by
  have hb : b < w.heap.size := h.lt
  have h1 := h.size
  have h2 := h.most
  have h8 := h.le8
  have hq' : ((l.length : Int) == (m : Int)) = false := by simp; omega
  have hl0 : (0 : Int) ≤ (l.length : Int) := by omega
  have hl8 : (l.length : Int) ≤ 8 := by omega
  have H := hid h
  have HQ := hid hq
  clear h
  go_enter Try.func14, Try.ntmps14
  go_wp2
  refine wp_region_text putRegion (fun _ => True) (by kernel_rfl) (by kernel_rfl) trivial ?_
  unfold putRegion
  repeat (first
    | (refine' wpT_calm (v := _) (by rfl) (fun W hW => ?_) ?_; rotate_left
       · ((try dsimp only at hW); go_simp; first | done | rfl)
       simp only [Act.put, List.setIfInBounds_toArray, List.set_cons_zero, List.set_cons_succ])
    | (refine' wpT_reads (v := _) (by rfl) ?_ ?_; rotate_left
       · (go_simp; first | done | rfl)
       simp only [Act.put, List.setIfInBounds_toArray, List.set_cons_zero, List.set_cons_succ])
    | (refine wpT_skip (by rfl) rfl ?_; simp only [Act.put, List.setIfInBounds_toArray, List.set_cons_zero, List.set_cons_succ])
    | (refine wpT_does (by rfl) (fun K hK => ?_); go_simp; refine hK _ _ ?_ ?_
       · (trivial)
       clear hK K; try simp only [Act.put, List.setIfInBounds_toArray, List.set_cons_zero, List.set_cons_succ])
    | (refine wpT_last (by rfl) (fun K hK => ?_); go_simp; refine hK _ _ ?_; clear hK K)
    | (refine wpT_nil ?_))
  refine wpT_does (by rfl) (fun K hK => ?_)
  go_simp
  refine (containsFunc_any b w.heap.size l.length (fun i => (at2 l i).1) (fun i => (at2 l i).2) t _ (by omega) (by simp; omega) (fun i hi => ⟨?_, ?_⟩) ?_).mono ?_
  · rw [World.cell?_drew, World.cell?_alloc_lt _ _ _ (by exact hb)]; exact H.out.task i (by omega)
  · rw [World.cell?_drew, World.cell?_alloc_lt _ _ _ (by exact hb)]; exact H.out.err i (by omega)
  · rw [World.cell?_drew, World.cell?_alloc_new]; rfl
  rintro en w1 ⟨⟨v, rfl, hv⟩, hK1⟩
  refine hK _ _ trivial ?_
  clear hK K
  have HV := hid hv
  clear hv
  have hw0 : Keep (fun _ => False) w ((w.alloc (.cells #[.int .i64 t, .int .i64 e] 31)).drew) := ((Keep.refl _ _).alloc _).drew
  have hw1 := hw0.trans hK1
  have H1 := H.out.keep hw1 (fun h => h)
  have b1 : w1.cell? ⟨w.heap.size, 0, none⟩ = some (.int .i64 t) := (hK1.cell (p := ⟨w.heap.size, 0, none⟩) (by simp) (fun h => h)).trans (by rw [World.cell?_drew, World.cell?_alloc_new]; rfl)
  have b2 : w1.cell? ⟨w.heap.size, 1, none⟩ = some (.int .i64 e) := (hK1.cell (p := ⟨w.heap.size, 1, none⟩) (by simp) (fun h => h)).trans (by rw [World.cell?_drew, World.cell?_alloc_new]; rfl)
  have f1 : w.heap.size ≠ b := by omega
  clear h1 h2 hb
  have hb : b < w1.heap.size := H1.lt
  have h1 := H1.size
  have h2 := H1.most
  have HW := hid hw1
  have HH := hid H1
  clear hw0 hw1 hK1 H1 H
  cases v
  · -- there is none of that task
    repeat (first
      | (refine' wpT_calm (v := _) (by rfl) (fun W hW => ?_) ?_; rotate_left
         · ((try dsimp only at hW); go_simp; first | done | rfl)
         simp only [Act.put, List.setIfInBounds_toArray, List.set_cons_zero, List.set_cons_succ])
      | (refine' wpT_reads (v := _) (by rfl) ?_ ?_; rotate_left
         · (go_simp; first | done | rfl)
         simp only [Act.put, List.setIfInBounds_toArray, List.set_cons_zero, List.set_cons_succ])
      | (refine wpT_skip (by rfl) rfl ?_; simp only [Act.put, List.setIfInBounds_toArray, List.set_cons_zero, List.set_cons_succ])
      | (refine wpT_does (by rfl) (fun K hK => ?_); go_simp; refine hK _ _ ?_ ?_
         · (trivial)
         clear hK K; try simp only [Act.put, List.setIfInBounds_toArray, List.set_cons_zero, List.set_cons_succ])
      | (refine wpT_last (by rfl) (fun K hK => ?_); go_simp; refine hK _ _ ?_; clear hK K)
      | (refine wpT_nil ?_))
    have c1 := HH.out.task l.length (by omega)
    have c2 := HH.out.err l.length (by omega)
    have r1 := HH.out.fro (l.length * 2)
    have r2 := HH.out.fro (l.length * 2 + 1)
    have r3 := HH.out.fro 16
    have hl9 : (l.length : Int) < 8 := by omega
    have hl10 : l.length < 8 := by omega
    go_wp2
    refine wp_region_text [0,0,0,0,1,1,0,0,0,2] (fun _ => True) (by kernel_rfl) (by kernel_rfl) trivial ?_
    repeat (first
      | (refine' wpT_calm (v := _) (by rfl) (fun W hW => ?_) ?_; rotate_left
         · ((try dsimp only at hW); go_simp; first | done | rfl)
         simp only [Act.put, List.setIfInBounds_toArray, List.set_cons_zero, List.set_cons_succ])
      | (refine' wpT_reads (v := _) (by rfl) ?_ ?_; rotate_left
         · (go_simp; first | done | rfl)
         simp only [Act.put, List.setIfInBounds_toArray, List.set_cons_zero, List.set_cons_succ])
      | (refine wpT_skip (by rfl) rfl ?_; simp only [Act.put, List.setIfInBounds_toArray, List.set_cons_zero, List.set_cons_succ])
      | (refine wpT_does (by rfl) (fun K hK => ?_); go_simp; refine hK _ _ ?_ ?_
         · (trivial)
         clear hK K; try simp only [Act.put, List.setIfInBounds_toArray, List.set_cons_zero, List.set_cons_succ])
      | (refine wpT_last (by rfl) (fun K hK => ?_); go_simp; refine hK _ _ ?_; clear hK K)
      | (refine wpT_nil ?_))
    have h3 : ((w1.setCell ⟨b, l.length * 2, none⟩ (.int .i64 t)).setCell ⟨b, l.length * 2 + 1, none⟩ (.int .i64 e)).cell? ⟨b, 16, none⟩ = some (.int .i64 l.length) := by
      rw [World.cell?_setCell_other _ _ _ _ (by simp <;> omega), World.cell?_setCell_other _ _ _ _ (by simp <;> omega)]; exact h1
    have hP := hid (HH.out.put HQ.out t e)
    clear h1 h2
    go_wp2
    go_ret
    refine ⟨true, rfl, ?_, .inr ⟨rfl, HQ.out, ?_, ?_⟩⟩
    · refine Keep.drew ?_
      refine Keep.setOwn ?_ _
      refine Keep.setOwn ?_ _
      refine Keep.setOwn ?_ _
      exact HW.out.mono (fun k _ h => h.elim)
    · intro i hi he
      have := HV.out.2 ⟨i, hi, he⟩
      cases this
    · exact hP.out.of_block rfl
  · repeat (first
      | (refine' wpT_calm (v := _) (by rfl) (fun W hW => ?_) ?_; rotate_left
         · ((try dsimp only at hW); go_simp; first | done | rfl)
         simp only [Act.put, List.setIfInBounds_toArray, List.set_cons_zero, List.set_cons_succ])
      | (refine' wpT_reads (v := _) (by rfl) ?_ ?_; rotate_left
         · (go_simp; first | done | rfl)
         simp only [Act.put, List.setIfInBounds_toArray, List.set_cons_zero, List.set_cons_succ])
      | (refine wpT_skip (by rfl) rfl ?_; simp only [Act.put, List.setIfInBounds_toArray, List.set_cons_zero, List.set_cons_succ])
      | (refine wpT_does (by rfl) (fun K hK => ?_); go_simp; refine hK _ _ ?_ ?_
         · (trivial)
         clear hK K; try simp only [Act.put, List.setIfInBounds_toArray, List.set_cons_zero, List.set_cons_succ])
      | (refine wpT_last (by rfl) (fun K hK => ?_); go_simp; refine hK _ _ ?_; clear hK K)
      | (refine wpT_nil ?_))
    go_wp2
    go_ret
    exact ⟨false, rfl, HW.out.mono (fun k _ h => h.elim), .inl ⟨rfl, .inr (by simpa using HV.out), HH.out⟩⟩

end Go.Proofs.Yteobmdkghdjapaa
