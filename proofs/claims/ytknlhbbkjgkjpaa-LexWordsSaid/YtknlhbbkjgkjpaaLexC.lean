/- The reader: end and next. -/
import Derived.Test.YtknlhbbkjgkjpaaLexB
namespace Go.Proofs.Ytknlhbbkjgkjpaa
open Go Go.RowKit

/-- The reader's cells. -/
def RO (W : World) (b : Nat) (sv : Value) (line col : Nat) (fr : Int) (a : Int) (rem : Bool) : Prop :=
  W.heap[b]? = some (.cells #[sv, .int .i64 (line : Int), .int .i64 (col : Int), .int .i64 fr, .int .i64 a, .bool rem] 45 (0, 0))
section
variable {W W' : World} {b : Nat} {sv : Value} {line col : Nat} {fr a : Int} {rem : Bool}
theorem RO.lt (h : RO W b sv line col fr a rem) : b < W.heap.size := lt_of_heap h
theorem RO.c0 (h : RO W b sv line col fr a rem) : W.cell? ⟨b, 0, none⟩ = some sv := by rw [cell_of_row W b 0 _ _ _ h]; rfl
theorem RO.c1 (h : RO W b sv line col fr a rem) : W.cell? ⟨b, 1, none⟩ = some (.int .i64 (line : Int)) := by rw [cell_of_row W b 1 _ _ _ h]; rfl
theorem RO.c2 (h : RO W b sv line col fr a rem) : W.cell? ⟨b, 2, none⟩ = some (.int .i64 (col : Int)) := by rw [cell_of_row W b 2 _ _ _ h]; rfl
theorem RO.c3 (h : RO W b sv line col fr a rem) : W.cell? ⟨b, 3, none⟩ = some (.int .i64 fr) := by rw [cell_of_row W b 3 _ _ _ h]; rfl
theorem RO.c4 (h : RO W b sv line col fr a rem) : W.cell? ⟨b, 4, none⟩ = some (.int .i64 a) := by rw [cell_of_row W b 4 _ _ _ h]; rfl
theorem RO.c5 (h : RO W b sv line col fr a rem) : W.cell? ⟨b, 5, none⟩ = some (.bool rem) := by rw [cell_of_row W b 5 _ _ _ h]; rfl
theorem RO.fro (h : RO W b sv line col fr a rem) (i : Nat) : W.frozen? ⟨b, i, none⟩ = false := frozen_of_row W b i _ _ h
theorem RO.keep {F : Nat → Prop} (h : RO W b sv line col fr a rem) (hK : Keep F W W') (hF : ¬ F b) : RO W' b sv line col fr a rem := (hK.block b h.lt hF).trans h
theorem RO.s0 (h : RO W b sv line col fr a rem) (u : Value) : RO (W.setCell ⟨b, 0, none⟩ u) b u line col fr a rem := heap_setCell_same W b 0 _ _ u h
theorem RO.s1 (h : RO W b sv line col fr a rem) (u : Nat) : RO (W.setCell ⟨b, 1, none⟩ (.int .i64 (u : Int))) b sv u col fr a rem := heap_setCell_same W b 1 _ _ _ h
theorem RO.s2 (h : RO W b sv line col fr a rem) (u : Nat) : RO (W.setCell ⟨b, 2, none⟩ (.int .i64 (u : Int))) b sv line u fr a rem := heap_setCell_same W b 2 _ _ _ h
theorem RO.s3 (h : RO W b sv line col fr a rem) (u : Int) : RO (W.setCell ⟨b, 3, none⟩ (.int .i64 u)) b sv line col u a rem := heap_setCell_same W b 3 _ _ _ h
theorem RO.s4 (h : RO W b sv line col fr a rem) (u : Int) : RO (W.setCell ⟨b, 4, none⟩ (.int .i64 u)) b sv line col fr u rem := heap_setCell_same W b 4 _ _ _ h
theorem RO.s5 (h : RO W b sv line col fr a rem) (u : Bool) : RO (W.setCell ⟨b, 5, none⟩ (.bool u)) b sv line col fr a u := heap_setCell_same W b 5 _ _ _ h
end

/-- Where a word begins, of the text's first i bytes. -/
def Cur (l0 : By) (i : Nat) (cur : Option (By × Nat)) (fr a : Int) : Prop := match cur with
  | none => fr = -1
  | some (x, c) => ∃ p : Nat, fr = (p : Int) ∧ a = (c : Int) ∧ p ≤ i ∧ i ≤ l0.length ∧ x = (l0.take i).drop p

/-- The reader stands at i, with what it has. -/
structure Rd (w0 W : World) (b : Nat) (l0 : By) (i : Nat) (t : LS) : Prop where
  ex : ∃ sv fr a, RO W b sv t.line t.col fr a t.rem ∧ OwnW W sv t.ws ∧ Cur l0 i t.cur fr a ∧ (∀ k, sv.ownBlock = some k → w0.heap.size ≤ k ∧ k ≠ b)
  kp : Keep (fun _ => False) w0 W
  ge : w0.heap.size ≤ b

/-- Whatever is no row of cells stays. -/
def Oth (w w' : World) : Prop := ∀ (k : Nat) (o : Obj), w.heap[k]? = some o → (∀ C T f, o ≠ Obj.cells C T f) → w'.heap[k]? = some o
theorem Oth.refl (w : World) : Oth w w := fun _ _ h _ => h
theorem Oth.trans {a b c : World} (h : Oth a b) (k : Oth b c) : Oth a c := fun i o ho hc => k i o (h i o ho hc) hc
theorem Oth.of_keep {F : Nat → Prop} {w w' : World} (hK : Keep F w w') (hF : ∀ k, F k → k < w.heap.size → ∃ C T f, w.heap[k]? = some (.cells C T f)) : Oth w w' := fun k o ho hc =>
  (hK.block k (lt_of_heap ho) (fun hf => by
    obtain ⟨C, T, f, he⟩ := hF k hf (lt_of_heap ho)
    rw [he] at ho
    cases ho
    exact hc _ _ _ rfl)).trans ho
theorem own_cells {w : World} {B e s : Nat} {v : Value} {n : Nat} {xs : List Value} (h : w.ownsRow B e s v n xs) (k : Nat) (hk : v.ownBlock = some k) : ∃ C T f, w.heap[k]? = some (.cells C T f) := by
  obtain ⟨_, ⟨rfl, _⟩ | ⟨g, cap, cur, rfl, _, hg, _⟩⟩ := h
  · cases hk
  · cases hk
    exact ⟨_, _, _, hg⟩

set_option maxRecDepth 10000 in
set_option maxHeartbeats 1000000 in
theorem end_any {w0 w : World} {b : Nat} {l0 : By} {i : Nat} {t : LS} (h : Rd w0 w b l0 i t) (hi : i ≤ l0.length) (hl : l0.length ≤ 5000) (hw : t.ws.length ≤ 100000) (hb : t.line ≤ 100000 ∧ t.col ≤ 100000) :
    Calls Try.prog 22 #[.pointer (some ⟨b, 0, none⟩), .string (bs l0), .int .i64 (i : Int)] w fun e w' => (∃ v, e = .returned v) ∧ Rd w0 w' b l0 i (endS t) ∧ Oth w w' := by
  obtain ⟨sv, fr, a, hR, hO, hC, hF⟩ := h.ex
  have H := hid h
  have KP := hid h.kp
  have GE := hid h.ge
  clear h
  obtain ⟨a0, n0, hsv⟩ := hO.form
  have HSV := hid hsv
  obtain ⟨ws, line, col, cur, rem⟩ := t
  dsimp only at hR hO hC hw hb hsv HSV
  have c0 := hR.c0
  have c1 := hR.c1
  have c3 := hR.c3
  have c4 := hR.c4
  have f0 := hR.fro 0
  have f3 := hR.fro 3
  have R := hid hR
  have O := hid hO
  have F := hid hF
  cases cur with
  | none =>
    have hfr : fr = -1 := hC
    subst hfr
    have R3 := hid (R.out.s3 (-1))
    have kk : Keep (fun k => k = b) w (w.setCell ⟨b, 3, none⟩ (.int .i64 (-1))) := (Keep.refl _ w).setOwn _
    have OT := hid (Oth.of_keep kk (fun k hk _ => by subst hk; exact ⟨_, _, _, R.out⟩))
    have O3 := hid (O.out.keep kk (fun k hk he => (F.out k hk).2 he))
    have K3 := hid (KP.out.then kk (fun k hk => .inr (by rw [hk]; exact GE.out)))
    clear hR hO hC hF c0 c1 c4 hsv kk
    go_enter Try.func22, Try.ntmps22
    go_wp2
    go_end0
    exact ⟨⟨_, rfl⟩, ⟨⟨_, _, _, R3.out, O3.out, rfl, F.out⟩, K3.out, GE.out⟩, OT.out⟩
  | some xc =>
    obtain ⟨x, cc⟩ := xc
    obtain ⟨p, hfr, ha, hp1, hp2, hx⟩ := hC
    subst hfr ha
    have hpi : (p : Int) ≤ (i : Int) := by omega
    have hil : (i : Int) ≤ (l0.length : Int) := by omega
    have hp0 : (p : Int) ≥ 0 := by omega
    have bl := bs_size l0
    have BE : (bs l0).extract p i = bs x := by rw [bs_extract, ← hx]
    rw [hsv] at c0
    have R' := hid (R.out)
    clear hR hO hF hsv hx
    go_enter Try.func22, Try.ntmps22
    go_wp2_with fail
    refine wp_region_text [0,0,0,0,0,0,0,0,0,0,0,0,0,0,0,0,0,0,0,0,0,2,2,0,0,3] (fun W => W.cell? ⟨b, 0, none⟩ = some (.slice a0 ws.length n0) ∧ W.cell? ⟨b, 1, none⟩ = some (.int .i64 (line : Int)) ∧ W.cell? ⟨b, 3, none⟩ = some (.int .i64 (p : Int)) ∧ W.cell? ⟨b, 4, none⟩ = some (.int .i64 (cc : Int))) (by kernel_rfl) (by kernel_rfl) ⟨c0, c1, c3, c4⟩ ?_
    repeat (first
      | (refine' wpT_calm (v := _) (by rfl) (fun W hW => ?_) ?_; rotate_left
         · ((try dsimp only at hW); go_simp; first | done | rfl)
         simp only [Act.put, List.setIfInBounds_toArray, List.set_cons_zero, List.set_cons_succ])
      | (refine' wpT_reads (v := _) (by rfl) ?_ ?_; rotate_left
         · (go_simp; first | done | rfl)
         simp only [Act.put, List.setIfInBounds_toArray, List.set_cons_zero, List.set_cons_succ])
      | (refine wpT_skip (by rfl) rfl ?_; simp only [Act.put, List.setIfInBounds_toArray, List.set_cons_zero, List.set_cons_succ])
      | (refine wpT_does (by rfl) (fun K hK => ?_); go_simp; refine hK _ _ ?_ ?_
         · (trivial)
         clear hK K; try simp only [Act.put, List.setIfInBounds_toArray, List.set_cons_zero, List.set_cons_succ])
      | (refine wpT_last (by rfl) (fun K hK => ?_); go_simp; refine hK _ _ ?_; clear hK K)
      | (refine wpT_nil ?_))
    refine wpT_does (by rfl) (fun K hK => ?_)
    go_simp
    have kc : Keep (fun _ => False) w (w.alloc (.cells #[.string (bs x), .int .i64 (line : Int), .int .i64 (cc : Int)] 32)).drew := ((Keep.refl _ _).alloc _).drew
    have own := O.out.keep kc fun _ _ h => h
    rw [HSV.out] at own
    have hsrc : Src (w.alloc (.cells #[.string (bs x), .int .i64 (line : Int), .int .i64 (cc : Int)] 32)).drew (.slice (some ⟨w.heap.size, 0, none⟩) 1 1) 1 3 (flatW [(x, line, cc)]) := one_srcW w (x, line, cc)
    have R1 := R.out.keep kc (fun h => h)
    rw [HSV.out] at R1
    refine hK _ _ ⟨R1.c0, R1.c1, R1.c3, R1.c4⟩ ?_
    clear hK K c0 c1 c3 c4
    try simp only [Act.put, List.setIfInBounds_toArray, List.set_cons_zero, List.set_cons_succ]
    repeat (first
      | (refine' wpT_calm (v := _) (by rfl) (fun W hW => ?_) ?_; rotate_left
         · ((try dsimp only at hW); go_simp; first | done | rfl)
         simp only [Act.put, List.setIfInBounds_toArray, List.set_cons_zero, List.set_cons_succ])
      | (refine' wpT_reads (v := _) (by rfl) ?_ ?_; rotate_left
         · (go_simp; first | done | rfl)
         simp only [Act.put, List.setIfInBounds_toArray, List.set_cons_zero, List.set_cons_succ])
      | (refine wpT_skip (by rfl) rfl ?_; simp only [Act.put, List.setIfInBounds_toArray, List.set_cons_zero, List.set_cons_succ])
      | (refine wpT_does (by rfl) (fun K hK => ?_); go_simp; refine hK _ _ ?_ ?_
         · (trivial)
         clear hK K; try simp only [Act.put, List.setIfInBounds_toArray, List.set_cons_zero, List.set_cons_succ])
      | (refine wpT_last (by rfl) (fun K hK => ?_); go_simp; refine hK _ _ ?_; clear hK K)
      | (refine wpT_nil ?_))
    refine wpT_does (by rfl) (fun K hK => ?_)
    refine wp_append_words _ (.tmp 15) (.tmp 32) rfl _ ws rfl own _ 1 [(x, line, cc)] rfl hsrc (by omega) ?_
    intro u Y o f k
    rw [← HSV.out] at k f
    have hYb : ¬ sv.ownBlock = some b := fun e => (F.out b e).2 rfl
    have R2 := R1.keep k hYb
    have hsc : (w.alloc (.cells #[.string (bs x), .int .i64 (line : Int), .int .i64 (cc : Int)] 32)).drew.heap.size = w.heap.size + 1 := World.size_alloc _ _
    have kz : Keep (fun k => sv.ownBlock = some k) w Y := (kc.mono fun _ _ h => h.elim).trans k
    have F2 : ∀ k, u.ownBlock = some k → w0.heap.size ≤ k ∧ k ≠ b := fun y hy => (f y hy).elim (F.out y) (fun h => by
      have h1 := KP.out.size
      have h2 := R.out.lt
      omega)
    have OT1 := Oth.of_keep kz (fun y hy _ => own_cells O.out y hy)
    have R3 := R2.s0 u
    have R4 := hid (R3.s3 (-1))
    have k3 : Keep (fun y => y = b) Y ((Y.setCell ⟨b, 0, none⟩ u).setCell ⟨b, 3, none⟩ (.int .i64 (-1))) := ((Keep.refl _ Y).setOwn _).setOwn _
    have OT2 := hid (OT1.trans (Oth.of_keep k3 (fun y hy _ => by subst hy; exact ⟨_, _, _, R2⟩)))
    have O2 := hid (o.keep k3 (fun y hy he => (F2 y hy).2 he))
    have K2 := hid ((KP.out.then kz (fun y hy => .inr (F.out y hy).1)).then k3 (fun y hy => .inr (by rw [hy]; exact GE.out)))
    have F2 := hid F2
    have f0' := R2.fro 0
    have c0' := R2.c0
    have f3' := R3.fro 3
    have c3' := R3.c3
    obtain ⟨au, cu, hu⟩ := o.form
    generalize (ws ++ [(x, line, cc)]).length = mu at hu
    subst hu
    refine hK _ _ ⟨by rw [R2.c0], R2.c1, R2.c3, R2.c4⟩ ?_
    clear hK K own hsrc o f k kz kc hsc R1 hYb OT1 k3
    try simp only [Act.put, List.setIfInBounds_toArray, List.set_cons_zero, List.set_cons_succ]
    repeat (first
      | (refine' wpT_calm (v := _) (by rfl) (fun W hW => ?_) ?_; rotate_left
         · ((try dsimp only at hW); go_simp; first | done | rfl)
         simp only [Act.put, List.setIfInBounds_toArray, List.set_cons_zero, List.set_cons_succ])
      | (refine' wpT_reads (v := _) (by rfl) ?_ ?_; rotate_left
         · (go_simp; first | done | rfl)
         simp only [Act.put, List.setIfInBounds_toArray, List.set_cons_zero, List.set_cons_succ])
      | (refine wpT_skip (by rfl) rfl ?_; simp only [Act.put, List.setIfInBounds_toArray, List.set_cons_zero, List.set_cons_succ])
      | (refine wpT_does (by rfl) (fun K hK => ?_); go_simp; refine hK _ _ ?_ ?_
         · (trivial)
         clear hK K; try simp only [Act.put, List.setIfInBounds_toArray, List.set_cons_zero, List.set_cons_succ])
      | (refine wpT_last (by rfl) (fun K hK => ?_); go_simp; refine hK _ _ ?_; clear hK K)
      | (refine wpT_nil ?_))
    clear f0' c0'
    go_wp2_with fail
    go_end0
    exact ⟨⟨_, rfl⟩, ⟨⟨_, _, _, R4.out, O2.out, rfl, F2.out⟩, K2.out, GE.out⟩, OT2.out⟩
end Go.Proofs.Ytknlhbbkjgkjpaa
