/- (*Log).View. A nil log; audit.Verify. audit.Verify (printed by gen_audm.py). The document's Chain. The document's log: New. -/
import Derived.Test.YtpijnpapmdnceaaGag

namespace Go.Proofs.Ytpijnpapmdnceaa
open Go Go.RowKit

/-- A view's value. -/
def viewV (d : Int) (b : List B8) (v : Value) (h : List B8) : Value := .agg #[.int .i64 d, .string (bya b), v, .string (bya h)]
/-- v is a list of its own, with no room. -/
def MadeR (w : World) (v : Value) (l : List Rc) : Prop := ∃ a c, v = .slice a l.length l.length ∧ OwnR w (.slice a l.length c) l
theorem ReadR.cap {w : World} {a : Option Addr} {n c c' : Nat} {l : List Rc} (h : ReadR w (.slice a n c) l) : ReadR w (.slice a n c') l := by
  rcases h with ⟨a', c1, hv, rfl⟩ | ⟨g, off, c1, hv, h⟩
  · simp only [Value.slice.injEq] at hv
    obtain ⟨rfl, rfl, _⟩ := hv
    exact .inl ⟨_, _, rfl, rfl⟩
  · simp only [Value.slice.injEq] at hv
    obtain ⟨rfl, rfl, _⟩ := hv
    exact .inr ⟨_, _, _, rfl, h⟩
theorem MadeR.reads {w : World} {v : Value} {l : List Rc} (h : MadeR w v l) : ReadR w v l := by
  obtain ⟨a, c, rfl, o⟩ := h
  exact o.reads.cap
theorem MadeR.form {w : World} {v : Value} {l : List Rc} (h : MadeR w v l) : ∃ a, v = .slice a l.length l.length := by
  obtain ⟨a, c, rfl, o⟩ := h
  exact ⟨a, rfl⟩
theorem MadeR.keep {F : Nat → Prop} {w w' : World} {v : Value} {l : List Rc} (h : MadeR w v l) (hK : Keep F w w') (hF : ∀ k, v.ownBlock = some k → ¬ F k) : MadeR w' v l := by
  obtain ⟨a, c, rfl, o⟩ := h
  exact ⟨a, c, rfl, o.keep hK (fun k hk => hF k (by cases a <;> simp_all [Value.ownBlock]))⟩

set_option maxRecDepth 10000 in
set_option maxHeartbeats 1000000 in
theorem aview_any {w : World} {b : Nat} {v : Value} {L : Lg} (h : LogAt w b v L) (hl : L.l.length ≤ 100000) :
    Calls Try.prog 22 #[.pointer (some ⟨b, 0, none⟩)] w fun e w' => ∃ v', e = .returned (viewV L.drop L.base v' L.head) ∧ MadeR w' v' L.l ∧ (∀ k, v'.ownBlock = some k → w.heap.size ≤ k) ∧ Keep (fun _ => False) w w' := by
  have H := hid h
  obtain ⟨a0, c0, hv⟩ := h.own.form
  subst hv
  obtain ⟨n, hn⟩ : ∃ n, L.l.length = n := ⟨_, rfl⟩
  have HN := hid hn
  have blt := h.lt
  rw [hn] at h H hl
  obtain ⟨W0, hW0⟩ : ∃ W0, (w.alloc (.cells #[.int .i64 0, .string ⟨#[]⟩, .slice none 0 0, .string ⟨#[]⟩] 45)) = W0 := ⟨_, rfl⟩
  have K0 : Keep (fun _ => False) w W0 := by rw [← hW0]; exact (Keep.refl _ _).alloc _
  have S0 : W0.heap.size = w.heap.size + 1 := by rw [← hW0, World.size_alloc]
  have HW0 := hid hW0
  have HK0 := hid K0
  have HS0 := hid S0
  clear h K0 S0 hW0 hn
  go_enter Try.func22, Try.ntmps22
  go_wp2_with fail
  rw [HW0.out]
  have HL := hid ((H.out.keep HK0.out (fun h => h) (fun _ _ h => h)).keep ((Keep.refl (fun _ => False) _).drew) (fun h => h) (fun _ _ h => h))
  have l1 := HL.out.c1
  have l2 := HL.out.c2
  have l3 := HL.out.c3
  have l4 := HL.out.c4
  refine wp_region_text [0,0,0,0,0,0,0,0,0,0,0,0,2,2,0,0,0,0,0,3] (fun W => W.cell? ⟨b, 1, none⟩ = some (.slice a0 n c0) ∧ W.cell? ⟨b, 2, none⟩ = some (.string (bya L.base)) ∧ W.cell? ⟨b, 3, none⟩ = some (.string (bya L.head)) ∧ W.cell? ⟨b, 4, none⟩ = some (.int .i64 (L.drop : Int))) (by kernel_rfl) (by kernel_rfl) ⟨l1, l2, l3, l4⟩ ?_
  repeat (first
    | (refine' wpT_calm (v := _) (by rfl) (fun W hW => ?_) ?_; rotate_left
       · ((try dsimp only at hW); go_simp; first | done | rfl)
       simp only [Act.put, List.setIfInBounds_toArray, List.set_cons_zero, List.set_cons_succ])
    | (refine' wpT_reads (v := _) (by rfl) ?_ ?_; rotate_left
       · (go_simp; first | done | rfl)
       simp only [Act.put, List.setIfInBounds_toArray, List.set_cons_zero, List.set_cons_succ])
    | (refine wpT_skip (by rfl) rfl ?_; simp only [Act.put, List.setIfInBounds_toArray, List.set_cons_zero, List.set_cons_succ])
    | (refine wpT_does (by rfl) (fun K hK => ?_); go_simp; refine hK _ _ ?_ ?_
       · (trivial)
       clear hK K; try simp only [Act.put, List.setIfInBounds_toArray, List.set_cons_zero, List.set_cons_succ])
    | (refine wpT_last (by rfl) (fun K hK => ?_); go_simp; refine hK _ _ ?_; clear hK K)
    | (refine wpT_nil ?_))
  refine wpT_does (by rfl) (fun K hK => ?_)
  go_simp
  refine (cloner_any HL.out.own.reads (by rw [HN.out]; omega)).mono ?_
  rintro _ w1 ⟨v1, rfl, o1, f1, k1⟩
  have H1 := hid (HL.out.keep k1 (fun h => h) (fun _ _ h => h))
  obtain ⟨a1, c1, hv1⟩ := o1.form
  have nc : n ≤ c1 := by
    subst hv1
    rcases o1 with ⟨_, ⟨hh, h0⟩ | ⟨g, cap, cur, hh, _, _, h1, _⟩⟩
    · rw [HN.out] at h0; omega
    · simp only [Value.slice.injEq] at hh
      obtain ⟨_, _, rfl⟩ := hh
      rw [← HN.out]; exact h1
  rw [HN.out] at hv1
  subst hv1
  have O1 := hid o1
  have F1 := hid f1
  have K1 := hid ((HK0.out.drew).trans k1)
  have B1 := hid (k1.block)
  have l1 := H1.out.c1
  have l2 := H1.out.c2
  have l3 := H1.out.c3
  have l4 := H1.out.c4
  refine hK _ _ ⟨l1, l2, l3, l4⟩ ?_
  clear hK K o1 f1 k1
  try simp only [Act.put, List.setIfInBounds_toArray, List.set_cons_zero, List.set_cons_succ]
  refine wpT_does (by rfl) (fun K hK => ?_)
  go_simp
  refine (clipr_any a1 n c1 nc).mono ?_
  rintro _ _ ⟨rfl, rfl⟩
  refine hK _ _ ⟨l1, l2, l3, l4⟩ ?_
  clear hK K
  have row1 : w1.heap[w.heap.size]? = some (.cells #[.int .i64 0, .string ⟨#[]⟩, .slice none 0 0, .string ⟨#[]⟩] 45 (0, 0)) := (B1.out _ (by show w.heap.size < W0.heap.size; rw [HS0.out]; exact Nat.lt_succ_self _) (fun h => h)).trans (by show W0.heap[w.heap.size]? = _; rw [← HW0.out]; exact heap_alloc_new w _)
  have q0 : w1.cell? ⟨w.heap.size, 0, none⟩ = some (.int .i64 0) := by rw [cell_of_row _ _ 0 _ _ _ row1]; rfl
  have q1 : w1.cell? ⟨w.heap.size, 1, none⟩ = some (.string ⟨#[]⟩) := by rw [cell_of_row _ _ 1 _ _ _ row1]; rfl
  have q2 : w1.cell? ⟨w.heap.size, 2, none⟩ = some (.slice none 0 0) := by rw [cell_of_row _ _ 2 _ _ _ row1]; rfl
  have q3 : w1.cell? ⟨w.heap.size, 3, none⟩ = some (.string ⟨#[]⟩) := by rw [cell_of_row _ _ 3 _ _ _ row1]; rfl
  have fr0 := frozen_of_row w1 w.heap.size 0 _ _ row1
  have fr1 := frozen_of_row w1 w.heap.size 1 _ _ row1
  have fr2 := frozen_of_row w1 w.heap.size 2 _ _ row1
  have fr3 := frozen_of_row w1 w.heap.size 3 _ _ row1
  have HRW := hid row1
  clear row1
  try simp only [Act.put, List.setIfInBounds_toArray, List.set_cons_zero, List.set_cons_succ]
  repeat (first
    | (refine' wpT_calm (v := _) (by rfl) (fun W hW => ?_) ?_; rotate_left
       · ((try dsimp only at hW); go_simp; first | done | rfl)
       simp only [Act.put, List.setIfInBounds_toArray, List.set_cons_zero, List.set_cons_succ])
    | (refine' wpT_reads (v := _) (by rfl) ?_ ?_; rotate_left
       · (go_simp; first | done | rfl)
       simp only [Act.put, List.setIfInBounds_toArray, List.set_cons_zero, List.set_cons_succ])
    | (refine wpT_skip (by rfl) rfl ?_; simp only [Act.put, List.setIfInBounds_toArray, List.set_cons_zero, List.set_cons_succ])
    | (refine wpT_does (by rfl) (fun K hK => ?_); go_simp; refine hK _ _ ?_ ?_
       · (trivial)
       clear hK K; try simp only [Act.put, List.setIfInBounds_toArray, List.set_cons_zero, List.set_cons_succ])
    | (refine wpT_last (by rfl) (fun K hK => ?_); go_simp; refine hK _ _ ?_; clear hK K)
    | (refine wpT_nil ?_))
  go_wp2_with fail
  have nw : ∀ k, (Value.slice a1 n n).ownBlock = some k → k ≠ w.heap.size := fun k hk => by
    have h1 := F1.out k (by cases a1 <;> simp_all [Value.ownBlock])
    have h2 : W0.heap.size ≤ k := h1
    have := HS0.out
    omega
  have KE : Keep (fun _ => False) w ((((w1.setCell ⟨w.heap.size, 0, none⟩ (.int .i64 L.drop)).setCell ⟨w.heap.size, 1, none⟩ (.string (bya L.base))).setCell ⟨w.heap.size, 2, none⟩ (.slice a1 n n)).setCell ⟨w.heap.size, 3, none⟩ (.string (bya L.head))) := (((K1.out.setCell (p := ⟨w.heap.size, 0, none⟩) (.inr (Nat.le_refl _)) _).setCell (p := ⟨w.heap.size, 1, none⟩) (.inr (Nat.le_refl _)) _).setCell (p := ⟨w.heap.size, 2, none⟩) (.inr (Nat.le_refl _)) _).setCell (p := ⟨w.heap.size, 3, none⟩) (.inr (Nat.le_refl _)) _
  have KO : Keep (fun k => k = w.heap.size) w1 ((((w1.setCell ⟨w.heap.size, 0, none⟩ (.int .i64 L.drop)).setCell ⟨w.heap.size, 1, none⟩ (.string (bya L.base))).setCell ⟨w.heap.size, 2, none⟩ (.slice a1 n n)).setCell ⟨w.heap.size, 3, none⟩ (.string (bya L.head))) := ((((Keep.refl _ _).setOwn _).setOwn _).setOwn _).setOwn _
  have rowE := heap_setCell_same _ _ 3 _ _ (.string (bya L.head)) (heap_setCell_same _ _ 2 _ _ (.slice a1 n n) (heap_setCell_same _ _ 1 _ _ (.string (bya L.base)) (heap_setCell_same _ _ 0 _ _ (.int .i64 L.drop) HRW.out)))
  refine bodyPost_ret (results_cell_row rfl _ _ w.heap.size _ _ _ _ rfl rowE Try.underlying45 rfl (by kernel_rfl)) rfl ?_
  refine ⟨_, rfl, ⟨a1, c1, by rw [HN.out], ?_⟩, fun k hk => ?_, KE⟩
  · rw [HN.out]
    exact O1.out.keep KO (fun k hk e => nw k (by cases a1 <;> simp_all [Value.ownBlock]) e)
  · have h1 := F1.out k (by cases a1 <;> simp_all [Value.ownBlock])
    have h2 : W0.heap.size ≤ k := h1
    have := HS0.out
    omega
end Go.Proofs.Ytpijnpapmdnceaa

namespace Go.Proofs.Ytpijnpapmdnceaa
open Go Go.RowKit

theorem info_V : (Try.prog.info? 45).map (·.size) = some 4 := by kernel_rfl

set_option maxRecDepth 10000 in
theorem aadd_none (w : World) (o : Value) (x y z : Int) (ho : ∃ a b c d e f : Int, o = .agg #[.int .i64 a, .int .i64 b, .int .i64 c, .int .i64 d, .int .i64 e, .int .i64 f]) :
    Calls Try.prog 19 #[.pointer none, o, .int .i64 x, .int .i64 y, .int .i64 z] w fun e w' => e = .returned (.tuple #[]) ∧ Keep (fun _ => False) w w' := by
  obtain ⟨a, b, c, d, e, f, rfl⟩ := ho
  go_enter Try.func19, Try.ntmps19
  go_wp2_with fail
  refine bodyPost_ret (results_none rfl _ _ _) rfl ?_
  exact ⟨rfl, (Keep.refl _ _).alloc _⟩

set_option maxRecDepth 10000 in
theorem aview_none (w : World) :
    Calls Try.prog 22 #[.pointer none] w fun e w' => e = .returned (viewV 0 [] (.slice none 0 0) []) ∧ Keep (fun _ => False) w w' := by
  have row := heap_alloc_new w (.cells #[.int .i64 0, .string ⟨#[]⟩, .slice none 0 0, .string ⟨#[]⟩] 45)
  have HR := hid row
  have K0 : Keep (fun _ => False) w (w.alloc (.cells #[.int .i64 0, .string ⟨#[]⟩, .slice none 0 0, .string ⟨#[]⟩] 45)) := (Keep.refl _ _).alloc _
  have HK := hid K0
  clear row K0
  go_enter Try.func22, Try.ntmps22
  go_wp2_with fail
  refine bodyPost_ret (results_cell_row rfl _ _ w.heap.size _ _ _ _ rfl HR.out Try.underlying45 rfl (by kernel_rfl)) rfl ?_
  exact ⟨rfl, HK.out⟩
end Go.Proofs.Ytpijnpapmdnceaa

namespace Go.Proofs.Ytpijnpapmdnceaa
open Go Go.RowKit

/-- May the record at n stand there? -/
def seqOk (d : Int) (n : Nat) (r : Rc) : Bool := !(decide (r.s < (n : Int)) || decide (IntKind.i64.wrap (r.s - (n : Int)) ≠ d))
def seqsOk (d : Int) : Nat → List Rc → Bool
  | _, [] => true
  | n, r :: l => seqOk d n r && seqsOk d (n + 1) l
def chns (h : List B8) (l : List Rc) : List B8 := l.foldl chn h
/-- What Verify answers. -/
def ver (d : Int) (base : List B8) (l : List Rc) (head : List B8) : Int :=
  if d < 0 ∨ base.length ≠ 32 ∨ head.length ≠ 32 ∨ l.length > 16 then 1
  else if d = 0 ∧ base ≠ zero32 then 19
  else if seqsOk d 0 l = false then 19
  else if chns base l ≠ head then 19 else 0

theorem seqs_at (d : Int) : ∀ (l : List Rc) (n i : Nat) (hi : i < l.length), seqsOk d n l = true → seqOk d (n + i) l[i] = true
  | [], n, i, hi, _ => absurd hi (Nat.not_lt_zero i)
  | r :: l, n, 0, _, h => by
    simp only [seqsOk, Bool.and_eq_true] at h
    exact h.1
  | r :: l, n, i + 1, hi, h => by
    simp only [seqsOk, Bool.and_eq_true] at h
    have := seqs_at d l (n + 1) i (by simpa using hi) h.2
    rw [show n + (i + 1) = n + 1 + i from by omega]
    exact this
theorem seqs_not (d : Int) (l : List Rc) (n i : Nat) (hi : i < l.length) (h : seqOk d (n + i) l[i] = false) : seqsOk d n l = false := by
  cases hs : seqsOk d n l with
  | false => rfl
  | true =>
    have := seqs_at d l n i hi hs
    rw [h] at this
    cases this
theorem seqs_all (d : Int) : ∀ (l : List Rc) (n : Nat), (∀ i (hi : i < l.length), seqOk d (n + i) l[i] = true) → seqsOk d n l = true
  | [], _, _ => rfl
  | r :: l, n, h => by
    simp only [seqsOk, Bool.and_eq_true]
    refine ⟨h 0 (Nat.succ_pos _), seqs_all d l (n + 1) fun i hi => ?_⟩
    have := h (i + 1) (by simpa using hi)
    rw [show n + (i + 1) = n + 1 + i from by omega] at this
    exact this
theorem chns_snoc (h : List B8) (l : List Rc) (r : Rc) : chns h (l ++ [r]) = chn (chns h l) r := by simp [chns]
theorem chns_len : ∀ (l : List Rc) (h : List B8), h.length = 32 → (chns h l).length = 32
  | [], _, hh => hh
  | r :: l, h, _ => chns_len l (chn h r) (chn_len _ _)
theorem bya_inj {a b : List B8} (h : bya a = bya b) : a = b := by
  have := bya_beq a b
  rw [h] at this
  have h2 : ((bya b).toList == (bya b).toList) = true := beq_self_eq_true _
  rw [h2] at this
  exact of_decide_eq_true this.symm

set_option maxRecDepth 10000 in
set_option maxHeartbeats 1000000 in
theorem verify_any {w : World} {v : Value} {l : List Rc} (h : ReadR w v l) (d : Int) (base head : List B8) :
    Calls Try.prog 25 #[viewV d base v head] w fun e w' => e = .returned (.int .i64 (ver d base l head)) ∧ Keep (fun _ => False) w w' := by
  obtain ⟨a0, c0, hv⟩ := h.form
  subst hv
  obtain ⟨n, hn⟩ : ∃ n, l.length = n := ⟨_, rfl⟩
  rw [hn] at h ⊢
  have H := hid h
  have HN := hid hn
  obtain ⟨B, hB⟩ : ∃ B, bya base = B := ⟨_, rfl⟩
  obtain ⟨E, hE⟩ : ∃ E, bya head = E := ⟨_, rfl⟩
  have sB : B.size = base.length := by rw [← hB, bya_size]
  have sE : E.size = head.length := by rw [← hE, bya_size]
  have HB := hid hB
  have HE := hid hE
  unfold viewV
  rw [hB, hE]
  clear h hn hB hE
  obtain ⟨W0, hW0⟩ : ∃ W0, w.alloc (.cells #[.int .i64 d, .string B, .slice a0 n c0, .string E] 45) = W0 := ⟨_, rfl⟩
  have K0 : Keep (fun _ => False) w W0 := by rw [← hW0]; exact (Keep.refl _ _).alloc _
  have S0 : w.heap.size < W0.heap.size := by rw [← hW0, World.size_alloc]; exact Nat.lt_succ_self _
  have row0 : W0.heap[w.heap.size]? = some (.cells #[.int .i64 d, .string B, .slice a0 n c0, .string E] 45 (0, 0)) := by rw [← hW0]; exact heap_alloc_new w _
  have HW0 := hid hW0
  have HK0 := hid K0
  have HS0 := hid S0
  have HR0 := hid row0
  have q0 : W0.cell? ⟨w.heap.size, 0, none⟩ = some (.int .i64 d) := by rw [cell_of_row _ _ 0 _ _ _ row0]; rfl
  have q1 : W0.cell? ⟨w.heap.size, 1, none⟩ = some (.string B) := by rw [cell_of_row _ _ 1 _ _ _ row0]; rfl
  have q2 : W0.cell? ⟨w.heap.size, 2, none⟩ = some (.slice a0 n c0) := by rw [cell_of_row _ _ 2 _ _ _ row0]; rfl
  have q3 : W0.cell? ⟨w.heap.size, 3, none⟩ = some (.string E) := by rw [cell_of_row _ _ 3 _ _ _ row0]; rfl
  clear hW0 K0 S0 row0
  go_enter Try.func25, Try.ntmps25
  by_cases b1 : d < 0
  · have hv1 : ver d base l head = 1 := by unfold ver; rw [if_pos (.inl b1)]
    have HV := hid hv1
    clear hv1 sB sE
    go_wp2_with fail
    go_ret
    exact ⟨by rw [HV.out]; rfl, by rw [HW0.out]; exact HK0.out⟩
  have b1' : 0 ≤ d := by omega
  by_cases b2 : B.size ≠ 32
  · have hv1 : ver d base l head = 1 := by unfold ver; rw [if_pos (.inr (.inl (by rw [← sB]; exact b2)))]
    have HV := hid hv1
    have b2' : ((B.size : Int) != 32) = true := by simp; omega
    clear hv1 sB sE b2
    go_wp2_with fail
    go_ret
    exact ⟨by rw [HV.out]; rfl, by rw [HW0.out]; exact HK0.out⟩
  have b2' : ((B.size : Int) != 32) = false := by simp; omega
  by_cases b3 : E.size ≠ 32
  · have hv1 : ver d base l head = 1 := by unfold ver; rw [if_pos (.inr (.inr (.inl (by rw [← sE]; exact b3))))]
    have HV := hid hv1
    have b3' : ((E.size : Int) != 32) = true := by simp; omega
    clear hv1 sB sE b2 b3
    go_wp2_with fail
    go_ret
    exact ⟨by rw [HV.out]; rfl, by rw [HW0.out]; exact HK0.out⟩
  have b3' : ((E.size : Int) != 32) = false := by simp; omega
  by_cases b4 : (n : Int) > 16
  · have hv1 : ver d base l head = 1 := by unfold ver; rw [if_pos (.inr (.inr (.inr (by rw [HN.out]; omega))))]
    have HV := hid hv1
    clear hv1 sB sE b2 b3
    go_wp2_with fail
    go_ret
    exact ⟨by rw [HV.out]; rfl, by rw [HW0.out]; exact HK0.out⟩
  have hv0 : ver d base l head = if d = 0 ∧ base ≠ zero32 then 19 else if seqsOk d 0 l = false then 19 else if chns base l ≠ head then 19 else 0 := by
    unfold ver
    rw [if_neg (fun h => by rcases h with h | h | h | h <;> first | omega | (rw [HN.out] at h; omega))]
  have HV := hid hv0
  have HSB : Hid (base.length = 32) := hid (by omega)
  clear hv0 sB sE b2 b3
  go_wp2_with fail
  rw [HW0.out]
  have d0 : W0.drew.cell? ⟨w.heap.size, 0, none⟩ = some (.int .i64 d) := q0
  have d1 : W0.drew.cell? ⟨w.heap.size, 1, none⟩ = some (.string B) := q1
  refine wp_region_text [0,0,0,0,0,0,2,0,0] (fun W => W.cell? ⟨w.heap.size, 0, none⟩ = some (.int .i64 d) ∧ W.cell? ⟨w.heap.size, 1, none⟩ = some (.string B)) (by kernel_rfl) (by kernel_rfl) ⟨d0, d1⟩ ?_
  by_cases b5 : d = 0
  · subst b5
    repeat (first
      | (refine' wpT_calm (v := _) (by rfl) (fun W hW => ?_) ?_; rotate_left
         · ((try dsimp only at hW); go_simp; first | done | rfl)
         simp only [Act.put, List.setIfInBounds_toArray, List.set_cons_zero, List.set_cons_succ])
      | (refine' wpT_reads (v := _) (by rfl) ?_ ?_; rotate_left
         · (go_simp; first | done | rfl)
         simp only [Act.put, List.setIfInBounds_toArray, List.set_cons_zero, List.set_cons_succ])
      | (refine wpT_skip (by rfl) rfl ?_; simp only [Act.put, List.setIfInBounds_toArray, List.set_cons_zero, List.set_cons_succ])
      | (refine wpT_does (by rfl) (fun K hK => ?_); go_simp; refine hK _ _ ?_ ?_
         · (trivial)
         clear hK K; try simp only [Act.put, List.setIfInBounds_toArray, List.set_cons_zero, List.set_cons_succ])
      | (refine wpT_last (by rfl) (fun K hK => ?_); go_simp; refine hK _ _ ?_; clear hK K)
      | (refine wpT_nil ?_))
    refine wpT_does (by rfl) (fun K hK => ?_)
    go_simp
    refine (start_any _).mono ?_
    rintro _ V ⟨rfl, kV⟩
    have HKV := hid ((Keep.refl (fun _ => False) W0).drew.trans kV)
    have e0 := (HKV.out.cell (p := ⟨w.heap.size, 0, none⟩) HS0.out (fun h => h)).trans q0
    have e1 := (HKV.out.cell (p := ⟨w.heap.size, 1, none⟩) HS0.out (fun h => h)).trans q1
    refine hK _ _ ⟨e0, e1⟩ ?_
    clear hK K kV d0 d1
    try simp only [Act.put, List.setIfInBounds_toArray, List.set_cons_zero, List.set_cons_succ]
    rw [bstr_eq]
    obtain ⟨Z, hZ⟩ : ∃ Z, bya (List.replicate 32 0#8) = Z := ⟨_, rfl⟩
    have ZB : (B.toList == Z.toList) = decide (base = zero32) := by rw [← HB.out, ← hZ]; exact bya_beq _ _
    rw [hZ]
    by_cases b6 : base = zero32
    · have HVF : Hid (ver 0 base l head = if seqsOk 0 0 l = false then 19 else if chns base l ≠ head then 19 else 0) := hid (by rw [HV.out, if_neg (fun h => h.2 b6)])
      rw [decide_eq_true b6] at ZB
      clear b6 hZ
      repeat (first
        | (refine' wpT_calm (v := _) (by rfl) (fun W hW => ?_) ?_; rotate_left
           · ((try dsimp only at hW); go_simp; first | done | rfl)
           simp only [Act.put, List.setIfInBounds_toArray, List.set_cons_zero, List.set_cons_succ])
        | (refine' wpT_reads (v := _) (by rfl) ?_ ?_; rotate_left
           · (go_simp; first | done | rfl)
           simp only [Act.put, List.setIfInBounds_toArray, List.set_cons_zero, List.set_cons_succ])
        | (refine wpT_skip (by rfl) rfl ?_; simp only [Act.put, List.setIfInBounds_toArray, List.set_cons_zero, List.set_cons_succ])
        | (refine wpT_does (by rfl) (fun K hK => ?_); go_simp; refine hK _ _ ?_ ?_
           · (trivial)
           clear hK K; try simp only [Act.put, List.setIfInBounds_toArray, List.set_cons_zero, List.set_cons_succ])
        | (refine wpT_last (by rfl) (fun K hK => ?_); go_simp; refine hK _ _ ?_; clear hK K)
        | (refine wpT_nil ?_))
      have HKW := hid (HK0.out.trans HKV.out)
      have r0 := (HKV.out.cell (p := ⟨w.heap.size, 0, none⟩) HS0.out (fun h => h)).trans q0
      have r1 := (HKV.out.cell (p := ⟨w.heap.size, 1, none⟩) HS0.out (fun h => h)).trans q1
      have r2 := (HKV.out.cell (p := ⟨w.heap.size, 2, none⟩) HS0.out (fun h => h)).trans q2
      have r3 := (HKV.out.cell (p := ⟨w.heap.size, 3, none⟩) HS0.out (fun h => h)).trans q3
      clear q0 q1 q2 q3
      have b4' : n ≤ 16 := by omega
      go_wp2_with fail
      rw [← HB.out]
      go_loopw [3, 41] (fun hv iv wr => ∃ (i : Nat) (h : List B8), i ≤ n ∧ h.length = 32 ∧ chns base (l.take i) = h ∧ (∀ j (hj : j < l.length), j < i → seqOk 0 j l[j] = true) ∧ Keep (fun _ => False) V wr ∧ hv = .string (bya h) ∧ iv = .int .i64 i) (fun _ iv _ => n - (intOf iv).toNat)
      case atStart => exact ⟨0, base, by omega, HSB.out, rfl, fun j _ h => absurd h (Nat.not_lt_zero j), Keep.refl _ _, rfl, rfl⟩
      case round =>
        obtain ⟨i, h, hi, hh, hc, hs, hK, rfl, rfl⟩ := hrel
        have u0 := (hK.cell (p := ⟨w.heap.size, 0, none⟩) (Nat.lt_of_lt_of_le HS0.out HKV.out.size) (fun h => h)).trans r0
        have u1 := (hK.cell (p := ⟨w.heap.size, 1, none⟩) (Nat.lt_of_lt_of_le HS0.out HKV.out.size) (fun h => h)).trans r1
        have u2 := (hK.cell (p := ⟨w.heap.size, 2, none⟩) (Nat.lt_of_lt_of_le HS0.out HKV.out.size) (fun h => h)).trans r2
        have u3 := (hK.cell (p := ⟨w.heap.size, 3, none⟩) (Nat.lt_of_lt_of_le HS0.out HKV.out.size) (fun h => h)).trans r3
        have HC := hid hc
        have HH := hid hh
        have HS := hid hs
        have KK := hid (HKV.out.trans hK)
        have hK0 := hid hK
        clear hc hh hs hK r0 r1 r2 r3
        by_cases hlt : i < n
        · have hli : (i : Int) < n := by omega
          have hl : i < l.length := by rw [HN.out]; exact hlt
          rcases (H.out.keep (HK0.out.trans KK.out) (fun _ _ h => h)) with ⟨a1, c1, hv1, h0⟩ | ⟨g, off, c1, hv1, hg, hm, hx⟩
          · rw [h0] at hl; exact absurd hl (Nat.not_lt_zero i)
          simp only [Value.slice.injEq] at hv1
          obtain ⟨rfl, -, rfl⟩ := hv1
          obtain ⟨x, hq⟩ : ∃ x, l[i] = x := ⟨_, rfl⟩
          have cx : ∀ j u, x.cells[j]? = some u → wr.cell? ⟨g, off + i * 10 + j, none⟩ = some u := fun j u hu => by
            have hj : j < 10 := (List.getElem?_eq_some_iff.1 hu).1
            have h1 := flatR_get l i j hl hj
            rw [hq, hu] at h1
            have h2 := hx _ u h1
            rwa [← Nat.add_assoc] at h2
          have x0 := cx 0 (.int .i64 x.s) rfl
          have x1 := cx 1 (.int .i64 x.t) rfl
          have x2 := cx 2 (.int .i64 x.c) rfl
          have x3 := cx 3 (.int .i64 x.o) rfl
          have x4 := cx 4 (.int .i64 x.e) rfl
          have x5 := cx 5 (.int .i64 x.n) rfl
          have x6 := cx 6 (.int .i64 x.m) rfl
          have x7 := cx 7 (.int .i64 x.a) rfl
          have x8 := cx 8 (.int .i64 x.b) rfl
          have x9 := cx 9 (.int .i64 x.d) rfl
          rw [Nat.add_zero] at x0
          have HQ := hid hq
          clear cx hq hx hm
          have KA : Keep (fun _ => False) wr (wr.alloc (.cells #[.int .i64 x.s, .int .i64 x.t, .int .i64 x.c, .int .i64 x.o, .int .i64 x.e, .int .i64 x.n, .int .i64 x.m, .int .i64 x.a, .int .i64 x.b, .int .i64 x.d] 42)) := (Keep.refl _ _).alloc _
          have KA2 := hid (KK.out.trans KA)
          have HKA := hid KA
          have z0 := (KA.cell (p := ⟨w.heap.size, 0, none⟩) (World.block_lt_of_cell? _ _ u0) (fun h => h)).trans u0
          clear KA
          by_cases hk : seqOk 0 i x = true
          · have hk2 := hk
            simp only [seqOk, Bool.not_eq_true', Bool.or_eq_false_iff, decide_eq_false_iff_not, Decidable.not_not] at hk2
            obtain ⟨k1, k2⟩ := hk2
            have k3 : (i : Int) ≤ x.s := by omega
            have HKK := hid hk
            clear hk
            go_wp2_with fail
            refine (chain_any h (by rw [HH.out]; omega) x _).mono ?_
            rintro _ w3 ⟨rfl, k4⟩
            have K3 := hid ((hK0.out.trans HKA.out).trans k4)
            clear k4 z0
            rw [bstr_eq]
            go_wp2_with fail
            go_roundw
            case rel =>
              refine ⟨i + 1, chn h x, by omega, chn_len _ _, ?_, fun j hj hji => ?_, K3.out, rfl, by go_num⟩
              · rw [List.take_succ_eq_append_getElem hl, HQ.out, chns_snoc, HC.out]
              · by_cases hje : j = i
                · subst hje; rw [HQ.out]; exact HKK.out
                · exact HS.out j hj (by omega)
            case measure => simp [intOf]; omega
          · have hk2 : seqOk 0 i x = false := by simpa using hk
            have HE2 : Hid (ver 0 base l head = 19) := hid (by rw [HVF.out, if_pos (seqs_not 0 l 0 i hl (by rw [Nat.zero_add, HQ.out]; exact hk2))])
            simp only [seqOk, Bool.not_eq_false', Bool.or_eq_true, decide_eq_true_eq] at hk2
            clear hk
            by_cases k1 : x.s < (i : Int)
            · clear hk2
              go_wp2_with fail
              go_ret
              exact ⟨by rw [HE2.out]; rfl, HK0.out.trans KA2.out⟩
            · have k2 := hk2.resolve_left k1
              have k3 : (i : Int) ≤ x.s := by omega
              have k4 : (wrap64 (x.s - (i : Int)) != 0) = true := by rw [bne_iff_ne, ← IntWalk.i64_left]; exact k2
              clear hk2 k2
              go_wp2_with fail
              go_ret
              exact ⟨by rw [HE2.out]; rfl, HK0.out.trans KA2.out⟩
        · obtain rfl : i = n := by omega
          have hf : chns base l = h := by have := HC.out; rwa [List.take_of_length_le (by rw [HN.out]; exact Nat.le_refl _)] at this
          have sq : seqsOk 0 0 l = true := seqs_all 0 l 0 (fun j hj => by rw [Nat.zero_add]; exact HS.out j hj (by rw [← HN.out]; exact hj))
          have HV3 : Hid (ver 0 base l head = if h ≠ head then 19 else 0) := hid (by rw [HVF.out, sq, if_neg (by simp), hf])
          have EB : ((bya h).toList == E.toList) = decide (h = head) := by rw [← HE.out]; exact bya_beq _ _
          clear hf sq
          by_cases he : h = head
          · have HV4 : Hid (ver 0 base l head = 0) := hid (by rw [HV3.out, if_neg (fun k => k he)])
            rw [decide_eq_true he] at EB
            clear he
            go_wp2_with fail
            go_ret
            exact ⟨by rw [HV4.out]; rfl, HK0.out.trans KK.out⟩
          · have HV4 : Hid (ver 0 base l head = 19) := hid (by rw [HV3.out, if_pos he])
            rw [decide_eq_false he] at EB
            clear he
            go_wp2_with fail
            go_ret
            exact ⟨by rw [HV4.out]; rfl, HK0.out.trans KK.out⟩
    · have HVF : Hid (ver 0 base l head = 19) := hid (by rw [HV.out, if_pos ⟨rfl, b6⟩])
      rw [decide_eq_false b6] at ZB
      clear b6 hZ
      repeat (first
        | (refine' wpT_calm (v := _) (by rfl) (fun W hW => ?_) ?_; rotate_left
           · ((try dsimp only at hW); go_simp; first | done | rfl)
           simp only [Act.put, List.setIfInBounds_toArray, List.set_cons_zero, List.set_cons_succ])
        | (refine' wpT_reads (v := _) (by rfl) ?_ ?_; rotate_left
           · (go_simp; first | done | rfl)
           simp only [Act.put, List.setIfInBounds_toArray, List.set_cons_zero, List.set_cons_succ])
        | (refine wpT_skip (by rfl) rfl ?_; simp only [Act.put, List.setIfInBounds_toArray, List.set_cons_zero, List.set_cons_succ])
        | (refine wpT_does (by rfl) (fun K hK => ?_); go_simp; refine hK _ _ ?_ ?_
           · (trivial)
           clear hK K; try simp only [Act.put, List.setIfInBounds_toArray, List.set_cons_zero, List.set_cons_succ])
        | (refine wpT_last (by rfl) (fun K hK => ?_); go_simp; refine hK _ _ ?_; clear hK K)
        | (refine wpT_nil ?_))
      go_wp2_with fail
      go_ret
      exact ⟨by rw [HVF.out]; rfl, HK0.out.trans HKV.out⟩
  · have b5' : (d == 0) = false := by simpa using b5
    have HVF : Hid (ver d base l head = if seqsOk d 0 l = false then 19 else if chns base l ≠ head then 19 else 0) := hid (by rw [HV.out, if_neg (fun h => b5 h.1)])
    repeat (first
      | (refine' wpT_calm (v := _) (by rfl) (fun W hW => ?_) ?_; rotate_left
         · ((try dsimp only at hW); go_simp; first | done | rfl)
         simp only [Act.put, List.setIfInBounds_toArray, List.set_cons_zero, List.set_cons_succ])
      | (refine' wpT_reads (v := _) (by rfl) ?_ ?_; rotate_left
         · (go_simp; first | done | rfl)
         simp only [Act.put, List.setIfInBounds_toArray, List.set_cons_zero, List.set_cons_succ])
      | (refine wpT_skip (by rfl) rfl ?_; simp only [Act.put, List.setIfInBounds_toArray, List.set_cons_zero, List.set_cons_succ])
      | (refine wpT_does (by rfl) (fun K hK => ?_); go_simp; refine hK _ _ ?_ ?_
         · (trivial)
         clear hK K; try simp only [Act.put, List.setIfInBounds_toArray, List.set_cons_zero, List.set_cons_succ])
      | (refine wpT_last (by rfl) (fun K hK => ?_); go_simp; refine hK _ _ ?_; clear hK K)
      | (refine wpT_nil ?_))
    obtain ⟨V, hV⟩ : ∃ V, W0.drew = V := ⟨_, rfl⟩
    have HKV : Hid (Keep (fun _ => False) W0 V) := hid (by rw [← hV]; exact (Keep.refl _ _).drew)
    rw [hV]
    clear hV d0 d1 b5 b5'
    have HKW := hid (HK0.out.trans HKV.out)
    have r0 := (HKV.out.cell (p := ⟨w.heap.size, 0, none⟩) HS0.out (fun h => h)).trans q0
    have r1 := (HKV.out.cell (p := ⟨w.heap.size, 1, none⟩) HS0.out (fun h => h)).trans q1
    have r2 := (HKV.out.cell (p := ⟨w.heap.size, 2, none⟩) HS0.out (fun h => h)).trans q2
    have r3 := (HKV.out.cell (p := ⟨w.heap.size, 3, none⟩) HS0.out (fun h => h)).trans q3
    clear q0 q1 q2 q3
    have b4' : n ≤ 16 := by omega
    go_wp2_with fail
    rw [← HB.out]
    go_loopw [3, 41] (fun hv iv wr => ∃ (i : Nat) (h : List B8), i ≤ n ∧ h.length = 32 ∧ chns base (l.take i) = h ∧ (∀ j (hj : j < l.length), j < i → seqOk d j l[j] = true) ∧ Keep (fun _ => False) V wr ∧ hv = .string (bya h) ∧ iv = .int .i64 i) (fun _ iv _ => n - (intOf iv).toNat)
    case atStart => exact ⟨0, base, by omega, HSB.out, rfl, fun j _ h => absurd h (Nat.not_lt_zero j), Keep.refl _ _, rfl, rfl⟩
    case round =>
      obtain ⟨i, h, hi, hh, hc, hs, hK, rfl, rfl⟩ := hrel
      have u0 := (hK.cell (p := ⟨w.heap.size, 0, none⟩) (Nat.lt_of_lt_of_le HS0.out HKV.out.size) (fun h => h)).trans r0
      have u1 := (hK.cell (p := ⟨w.heap.size, 1, none⟩) (Nat.lt_of_lt_of_le HS0.out HKV.out.size) (fun h => h)).trans r1
      have u2 := (hK.cell (p := ⟨w.heap.size, 2, none⟩) (Nat.lt_of_lt_of_le HS0.out HKV.out.size) (fun h => h)).trans r2
      have u3 := (hK.cell (p := ⟨w.heap.size, 3, none⟩) (Nat.lt_of_lt_of_le HS0.out HKV.out.size) (fun h => h)).trans r3
      have HC := hid hc
      have HH := hid hh
      have HS := hid hs
      have KK := hid (HKV.out.trans hK)
      have hK0 := hid hK
      clear hc hh hs hK r0 r1 r2 r3
      by_cases hlt : i < n
      · have hli : (i : Int) < n := by omega
        have hl : i < l.length := by rw [HN.out]; exact hlt
        rcases (H.out.keep (HK0.out.trans KK.out) (fun _ _ h => h)) with ⟨a1, c1, hv1, h0⟩ | ⟨g, off, c1, hv1, hg, hm, hx⟩
        · rw [h0] at hl; exact absurd hl (Nat.not_lt_zero i)
        simp only [Value.slice.injEq] at hv1
        obtain ⟨rfl, -, rfl⟩ := hv1
        obtain ⟨x, hq⟩ : ∃ x, l[i] = x := ⟨_, rfl⟩
        have cx : ∀ j u, x.cells[j]? = some u → wr.cell? ⟨g, off + i * 10 + j, none⟩ = some u := fun j u hu => by
          have hj : j < 10 := (List.getElem?_eq_some_iff.1 hu).1
          have h1 := flatR_get l i j hl hj
          rw [hq, hu] at h1
          have h2 := hx _ u h1
          rwa [← Nat.add_assoc] at h2
        have x0 := cx 0 (.int .i64 x.s) rfl
        have x1 := cx 1 (.int .i64 x.t) rfl
        have x2 := cx 2 (.int .i64 x.c) rfl
        have x3 := cx 3 (.int .i64 x.o) rfl
        have x4 := cx 4 (.int .i64 x.e) rfl
        have x5 := cx 5 (.int .i64 x.n) rfl
        have x6 := cx 6 (.int .i64 x.m) rfl
        have x7 := cx 7 (.int .i64 x.a) rfl
        have x8 := cx 8 (.int .i64 x.b) rfl
        have x9 := cx 9 (.int .i64 x.d) rfl
        rw [Nat.add_zero] at x0
        have HQ := hid hq
        clear cx hq hx hm
        have KA : Keep (fun _ => False) wr (wr.alloc (.cells #[.int .i64 x.s, .int .i64 x.t, .int .i64 x.c, .int .i64 x.o, .int .i64 x.e, .int .i64 x.n, .int .i64 x.m, .int .i64 x.a, .int .i64 x.b, .int .i64 x.d] 42)) := (Keep.refl _ _).alloc _
        have KA2 := hid (KK.out.trans KA)
        have HKA := hid KA
        have z0 := (KA.cell (p := ⟨w.heap.size, 0, none⟩) (World.block_lt_of_cell? _ _ u0) (fun h => h)).trans u0
        clear KA
        by_cases hk : seqOk d i x = true
        · have hk2 := hk
          simp only [seqOk, Bool.not_eq_true', Bool.or_eq_false_iff, decide_eq_false_iff_not, Decidable.not_not] at hk2
          obtain ⟨k1, k2⟩ := hk2
          have k3 : (i : Int) ≤ x.s := by omega
          have HKK := hid hk
          clear hk
          go_wp2_with fail
          refine (chain_any h (by rw [HH.out]; omega) x _).mono ?_
          rintro _ w3 ⟨rfl, k4⟩
          have K3 := hid ((hK0.out.trans HKA.out).trans k4)
          clear k4 z0
          rw [bstr_eq]
          go_wp2_with fail
          go_roundw
          case rel =>
            refine ⟨i + 1, chn h x, by omega, chn_len _ _, ?_, fun j hj hji => ?_, K3.out, rfl, by go_num⟩
            · rw [List.take_succ_eq_append_getElem hl, HQ.out, chns_snoc, HC.out]
            · by_cases hje : j = i
              · subst hje; rw [HQ.out]; exact HKK.out
              · exact HS.out j hj (by omega)
          case measure => simp [intOf]; omega
        · have hk2 : seqOk d i x = false := by simpa using hk
          have HE2 : Hid (ver d base l head = 19) := hid (by rw [HVF.out, if_pos (seqs_not d l 0 i hl (by rw [Nat.zero_add, HQ.out]; exact hk2))])
          simp only [seqOk, Bool.not_eq_false', Bool.or_eq_true, decide_eq_true_eq] at hk2
          clear hk
          by_cases k1 : x.s < (i : Int)
          · clear hk2
            go_wp2_with fail
            go_ret
            exact ⟨by rw [HE2.out]; rfl, HK0.out.trans KA2.out⟩
          · have k2 := hk2.resolve_left k1
            have k3 : (i : Int) ≤ x.s := by omega
            have k4 : (wrap64 (x.s - (i : Int)) != d) = true := by rw [bne_iff_ne, ← IntWalk.i64_left]; exact k2
            clear hk2 k2
            go_wp2_with fail
            go_ret
            exact ⟨by rw [HE2.out]; rfl, HK0.out.trans KA2.out⟩
      · obtain rfl : i = n := by omega
        have hf : chns base l = h := by have := HC.out; rwa [List.take_of_length_le (by rw [HN.out]; exact Nat.le_refl _)] at this
        have sq : seqsOk d 0 l = true := seqs_all d l 0 (fun j hj => by rw [Nat.zero_add]; exact HS.out j hj (by rw [← HN.out]; exact hj))
        have HV3 : Hid (ver d base l head = if h ≠ head then 19 else 0) := hid (by rw [HVF.out, sq, if_neg (by simp), hf])
        have EB : ((bya h).toList == E.toList) = decide (h = head) := by rw [← HE.out]; exact bya_beq _ _
        clear hf sq
        by_cases he : h = head
        · have HV4 : Hid (ver d base l head = 0) := hid (by rw [HV3.out, if_neg (fun k => k he)])
          rw [decide_eq_true he] at EB
          clear he
          go_wp2_with fail
          go_ret
          exact ⟨by rw [HV4.out]; rfl, HK0.out.trans KK.out⟩
        · have HV4 : Hid (ver d base l head = 19) := hid (by rw [HV3.out, if_pos he])
          rw [decide_eq_false he] at EB
          clear he
          go_wp2_with fail
          go_ret
          exact ⟨by rw [HV4.out]; rfl, HK0.out.trans KK.out⟩
end Go.Proofs.Ytpijnpapmdnceaa

namespace Go.Proofs.Ytpijnpapmdnceaa
open Go Go.RowKit

theorem bya_append (a b : List B8) : bya a ++ bya b = bya (a ++ b) := by
  apply ByteArray.ext
  simp [bya]
theorem ConvY.reads {W : World} {g n c : Nat} {L : List B8} (h : ConvY W g n c L) (hm : n ≤ maxLen) : ReadY W (.slice (some ⟨g, 0, none⟩) n c) L :=
  .inr ⟨g, 0, c, by rw [h.len], h.lt, by rw [h.len]; exact hm, fun i hi => by rw [Nat.zero_add]; exact h.cell i (by rw [← h.len]; exact hi)⟩

set_option maxRecDepth 10000 in
set_option maxHeartbeats 1000000 in
theorem rchain_any {w : World} {v : Value} {l : List Rc} (h : ReadR w v l) (hm : l.length ≤ 1000) (base : List B8) (hb : base.length = 32) :
    Calls Try.prog 30 #[.string (bya base), v] w fun e w' => e = .returned (.string (bya (chns base l))) ∧ Keep (fun _ => False) w w' := by
  obtain ⟨a0, c0, hv⟩ := h.form
  subst hv
  obtain ⟨n, hn⟩ : ∃ n, l.length = n := ⟨_, rfl⟩
  rw [hn] at h hm ⊢
  have H := hid h
  have HN := hid hn
  have HSB := hid hb
  clear h hn hb
  go_enter Try.func30, Try.ntmps30
  go_wp2_with fail
  go_loopw [0, 5] (fun hv iv wr => ∃ (i : Nat) (h : List B8), i ≤ n ∧ h.length = 32 ∧ chns base (l.take i) = h ∧ Keep (fun _ => False) w wr ∧ hv = .string (bya h) ∧ iv = .int .i64 i) (fun _ iv _ => n - (intOf iv).toNat)
  case atStart => exact ⟨0, base, by omega, HSB.out, rfl, Keep.refl _ _, rfl, rfl⟩
  case round =>
    obtain ⟨i, h, hi, hh, hc, hK, rfl, rfl⟩ := hrel
    have HC := hid hc
    have HH := hid hh
    have KK := hid hK
    clear hc hh hK
    by_cases hlt : i < n
    · have hli : (i : Int) < n := by omega
      have hl : i < l.length := by rw [HN.out]; exact hlt
      rcases (H.out.keep KK.out (fun _ _ h => h)) with ⟨a1, c1, hv1, h0⟩ | ⟨g, off, c1, hv1, hg, hm1, hx⟩
      · rw [h0] at hl; exact absurd hl (Nat.not_lt_zero i)
      simp only [Value.slice.injEq] at hv1
      obtain ⟨rfl, -, rfl⟩ := hv1
      obtain ⟨x, hq⟩ : ∃ x, l[i] = x := ⟨_, rfl⟩
      have cx : ∀ j u, x.cells[j]? = some u → wr.cell? ⟨g, off + i * 10 + j, none⟩ = some u := fun j u hu => by
        have hj : j < 10 := (List.getElem?_eq_some_iff.1 hu).1
        have h1 := flatR_get l i j hl hj
        rw [hq, hu] at h1
        have h2 := hx _ u h1
        rwa [← Nat.add_assoc] at h2
      have x0 := cx 0 (.int .i64 x.s) rfl
      have x1 := cx 1 (.int .i64 x.t) rfl
      have x2 := cx 2 (.int .i64 x.c) rfl
      have x3 := cx 3 (.int .i64 x.o) rfl
      have x4 := cx 4 (.int .i64 x.e) rfl
      have x5 := cx 5 (.int .i64 x.n) rfl
      have x6 := cx 6 (.int .i64 x.m) rfl
      have x7 := cx 7 (.int .i64 x.a) rfl
      have x8 := cx 8 (.int .i64 x.b) rfl
      have x9 := cx 9 (.int .i64 x.d) rfl
      rw [Nat.add_zero] at x0
      have HQ := hid hq
      clear cx hq hx hm1
      go_wp2_with fail
      refine (rbytes_any x _).mono ?_
      rintro _ w1 ⟨v1, rfl, o1, f1, k1⟩
      obtain ⟨a2, c2, hv2⟩ := o1.form
      rw [byt_len] at hv2
      subst hv2
      have CV := bytes_conv o1.reads
      have K1 := hid (KK.out.trans k1)
      obtain ⟨S1, hS1⟩ : ∃ S1, bya h = S1 := ⟨_, rfl⟩
      obtain ⟨S2, hS2⟩ : ∃ S2, bya x.byt = S2 := ⟨_, rfl⟩
      obtain ⟨S3, hS3⟩ : ∃ S3, bya (h ++ x.byt) = S3 := ⟨_, rfl⟩
      have eS : S1 ++ S2 = S3 := by rw [← hS1, ← hS2, ← hS3]; exact bya_append _ _
      have z3 : S3.size = 112 := by rw [← hS3, bya_size, List.length_append, HH.out, byt_len]
      have hcv := fun w => run_bytes_of_string (P := Try.prog) w 9 22 5 S3 Try.underlying9 Try.underlying22 Try.underlying5
      have z1 : S1.size = 32 := by rw [← hS1, bya_size, HH.out]
      have z2 : S2.size = 80 := by rw [← hS2, bya_size, byt_len]
      have HS3 := hid hS3
      rw [bstr_eq, hS2] at CV
      rw [hS1]
      clear hS1 hS2 hS3 o1 f1 k1
      have CN := conv_new w1 (h ++ x.byt)
      have lz : (h ++ x.byt).length = 112 := by rw [List.length_append, HH.out, byt_len]
      rw [lz, HS3.out] at CN
      have HLZ := hid lz
      have HCN := hid CN
      clear CN lz
      go_wp2_with fail
      refine (rof_any (HCN.out.reads (by decide)) (by rw [HLZ.out]; decide)).mono ?_
      rintro _ w3 ⟨rfl, k3⟩
      have K3 : Hid (Keep (fun _ => False) w w3) := hid (Keep.trans (((K1.out.drew).alloc _)) k3)
      clear k3
      rw [bstr_eq]
      go_wp2_with fail
      go_roundw
      case rel =>
        refine ⟨i + 1, chn h x, by omega, chn_len _ _, ?_, K3.out, rfl, by go_num⟩
        rw [List.take_succ_eq_append_getElem hl, HQ.out, chns_snoc, HC.out]
      case measure => simp [intOf]; omega
    · obtain rfl : i = n := by omega
      have hf : chns base l = h := by have := HC.out; rwa [List.take_of_length_le (by rw [HN.out]; exact Nat.le_refl _)] at this
      have HF := hid hf
      clear hf
      go_wp2_with fail
      go_ret
      exact ⟨by rw [HF.out]; rfl, KK.out⟩
end Go.Proofs.Ytpijnpapmdnceaa

namespace Go.Proofs.Ytpijnpapmdnceaa
open Go Go.RowKit

/-- The cells of a list of texts. -/
def flatS (l : List (List B8)) : List Value := l.map fun s => .string (bya s)
theorem flatS_append (a b : List (List B8)) : flatS (a ++ b) = flatS a ++ flatS b := List.map_append ..
theorem flatS_length (l : List (List B8)) : (flatS l).length = l.length := List.length_map ..
theorem flatS_one (l : List (List B8)) (v : Value) (hv : v ∈ flatS l) : v.oneCell' = true := by
  simp only [flatS, List.mem_map] at hv
  obtain ⟨x, _, rfl⟩ := hv
  rfl
def OwnS (w : World) (v : Value) (l : List (List B8)) : Prop := w.ownsRow 0 9 1 v l.length (flatS l)
theorem OwnS.form {w : World} {v : Value} {l : List (List B8)} (h : OwnS w v l) : ∃ a c, v = .slice a l.length c := owns_form h
theorem OwnS.keep {F : Nat → Prop} {w w' : World} {v : Value} {l : List (List B8)} (h : OwnS w v l) (hK : Keep F w w') (hF : ∀ k, v.ownBlock = some k → ¬ F k) : OwnS w' v l := owns_keep h hK hF
theorem Try.infoS2 : (Try.prog.info? 9).map (fun i => (i.zero, i.size, i.bytes)) = some (some (.string ByteArray.empty), 1, 16) := by kernel_rfl
theorem one_srcS (w : World) (x : List B8) : Src (w.alloc (.cells #[.string (bya x)] 9)) (.slice (some ⟨w.heap.size, 0, none⟩) 1 1) 1 1 (flatS [x]) := by
  refine .inr ⟨_, _, rfl, rfl, fun j u hu => ?_, flatS_one _⟩
  rw [add_off, Nat.zero_add, World.cell?_alloc_new]
  simpa [flatS] using hu
theorem wp_append_strs (w : World) {o : Oper} {a : Act} {K : Act → World → Prop} {Q : Exit → Act → World → Prop} (s y : Operand)
    (ho : o.op = .call { callee := .builtin .append, args := #[s, y], argTypes := #[68, 68] })
    (v : Value) (l : List (List B8)) (hs : a.eval s = v) (hown : OwnS w v l) (sv : Value) (m : Nat) (news : List (List B8)) (hx : a.eval y = sv) (hsrc : Src w sv m 1 (flatS news)) (hn : l.length + m ≤ 1000000)
    (h : ∀ v' w', OwnS w' v' (l ++ news) → (∀ k, v'.ownBlock = some k → v.ownBlock = some k ∨ w.heap.size ≤ k) → Keep (fun k => v.ownBlock = some k) w w' → K (a.put o.dst v') w') : o.wp Try.prog a w K Q := by
  obtain ⟨i0, hi, hz0, hz1, hz2⟩ := info_parts Try.infoS2
  have hm : news.length = m := by
    rcases hsrc with ⟨_, h1, h2⟩ | ⟨_, _, _, h2, _⟩
    · have h3 : news.length = 0 := by rw [← flatS_length, h2]; rfl
      omega
    · rw [flatS_length] at h2; omega
  refine wp_append_src w s y 68 ho 0 9 i0 (.string ByteArray.empty) 1 16 Try.underlying68 hi hz0 hz1 hz2 rfl (by decide) v l.length (flatS l) hs hown sv m _ hx hsrc (by unfold maxLen; omega) (by omega) (Nat.zero_le _) ?_
  intro v1 w1 o1 g1 f1
  refine h v1 w1 ?_ f1 (Keep.of_grown g1)
  unfold OwnS
  rw [List.length_append, flatS_append, hm]
  exact o1

/-- The document's log. -/
structure Rl where
  all : List Rc
  links : List (List B8)
  ring : Int
structure RlAt (w : World) (b : Nat) (va vl : Value) (R : Rl) : Prop where
  row : w.heap[b]? = some (.cells #[va, vl, .int .i64 R.ring] 70 (0, 0))
  oa : OwnR w va R.all
  ol : OwnS w vl R.links
  na : va.ownBlock ≠ some b
  nl : vl.ownBlock ≠ some b
  nn : ∀ k, va.ownBlock = some k → vl.ownBlock ≠ some k
  h32 : ∀ s ∈ R.links, s.length = 32
  len : R.links.length = R.all.length + 1
section
variable {w w' : World} {b : Nat} {va vl : Value} {R : Rl}
theorem RlAt.lt (h : RlAt w b va vl R) : b < w.heap.size := lt_of_heap h.row
theorem RlAt.c0 (h : RlAt w b va vl R) : w.cell? ⟨b, 0, none⟩ = some va := by rw [cell_of_row w b 0 _ _ _ h.row]; rfl
theorem RlAt.c1 (h : RlAt w b va vl R) : w.cell? ⟨b, 1, none⟩ = some vl := by rw [cell_of_row w b 1 _ _ _ h.row]; rfl
theorem RlAt.c2 (h : RlAt w b va vl R) : w.cell? ⟨b, 2, none⟩ = some (.int .i64 R.ring) := by rw [cell_of_row w b 2 _ _ _ h.row]; rfl
theorem RlAt.fro (h : RlAt w b va vl R) (i : Nat) : w.frozen? ⟨b, i, none⟩ = false := frozen_of_row w b i _ _ h.row
theorem RlAt.keep {F : Nat → Prop} (h : RlAt w b va vl R) (hK : Keep F w w') (hb : ¬ F b) (ha : ∀ k, va.ownBlock = some k → ¬ F k) (hl : ∀ k, vl.ownBlock = some k → ¬ F k) : RlAt w' b va vl R :=
  ⟨(hK.block b h.lt hb).trans h.row, h.oa.keep hK ha, h.ol.keep hK hl, h.na, h.nl, h.nn, h.h32, h.len⟩
end
def newR (n : Int) : Rl := ⟨[], [zero32], ringOf n⟩

set_option maxRecDepth 10000 in
set_option maxHeartbeats 1000000 in
theorem rnew_any (n : Int) (w : World) :
    Calls Try.prog 18 #[.int .i64 n] w fun e w' => ∃ b vl, e = .returned (.pointer (some ⟨b, 0, none⟩)) ∧ w.heap.size ≤ b ∧ (∀ k, vl.ownBlock = some k → w.heap.size ≤ k) ∧ RlAt w' b (.slice none 0 0) vl (newR n) ∧ Keep (fun _ => False) w w' := by
  obtain ⟨Z, hZ⟩ : ∃ Z, bya (List.replicate 32 0#8) = Z := ⟨_, rfl⟩
  have HZ := hid hZ
  clear hZ
  have cont : ∀ {P : Prop}, (n < 1 → P) → (¬ n < 1 → n > 16 → P) → (¬ n < 1 → ¬ n > 16 → P) → P := fun a b c => by
    by_cases h1 : n < 1
    · exact a h1
    · by_cases h2 : n > 16
      · exact b h1 h2
      · exact c h1 h2
  go_enter Try.func18, Try.ntmps18
  refine cont (fun h1 => ?_) (fun h1 h2 => ?_) (fun h1 h2 => ?_)
  · have RN : Hid (ringOf n = 1) := hid (by unfold ringOf; omega)
    go_wp2_with (at_make; refine wpList_plain rfl (fun K hK => wp_make_bytes _ _ _ rfl 32 32 rfl rfl (by decide) (by decide) ?_))
    intro w1 o1 k1
    refine hK _ _ ?_
    clear hK K
    have CV : (convert 22 9 (.slice (some ⟨w.heap.size, 0, none⟩) 32 32)).run Try.prog w1 = .ok (.string Z) w1 := by rw [← HZ.out]; exact bytes_conv o1.reads
    have K1 := hid k1
    clear o1 k1
    go_wp2_with fail
    go_ret
    refine ⟨w1.heap.size + 1, .slice (some ⟨w1.heap.size, 0, none⟩) 1 1, ?_, by have := K1.out.size; omega, fun k hk => ?_, ?_, (K1.out.alloc _).alloc _⟩
    · first | rfl | (simp; done)
    · have h1 : w1.heap.size = k := Option.some.inj hk
      have := K1.out.size
      omega
    · have hr := heap_alloc_new (w1.alloc (.cells #[.string Z] 9)) (.cells #[.slice none 0 0, .slice (some ⟨w1.heap.size, 0, none⟩) 1 1, .int .i64 1] 70)
      rw [World.size_alloc] at hr
      have ro := (heap_alloc_old (w1.alloc (.cells #[.string Z] 9)) (.cells #[.slice none 0 0, .slice (some ⟨w1.heap.size, 0, none⟩) 1 1, .int .i64 1] 70) (by rw [World.size_alloc]; exact Nat.lt_succ_self _)).trans (heap_alloc_new w1 _)
      refine ⟨by unfold newR; rw [RN.out]; exact hr, OwnR.nil _, ?_, fun h => (by cases h), fun h => (by have h1 : w1.heap.size = w1.heap.size + 1 := Option.some.inj h; omega), fun k hk => (by cases hk), fun s hs => (by simp [newR] at hs; rw [hs]; rfl), rfl⟩
      exact ⟨by simp [newR, flatS], .inr ⟨w1.heap.size, 1, _, rfl, Nat.zero_le _, ro, by simp [newR], by decide, rfl, by simp [newR, flatS]; rw [← HZ.out]; rfl⟩⟩
  · have RN : Hid (ringOf n = 16) := hid (by unfold ringOf; omega)
    go_wp2_with (at_make; refine wpList_plain rfl (fun K hK => wp_make_bytes _ _ _ rfl 32 32 rfl rfl (by decide) (by decide) ?_))
    intro w1 o1 k1
    refine hK _ _ ?_
    clear hK K
    have CV : (convert 22 9 (.slice (some ⟨w.heap.size, 0, none⟩) 32 32)).run Try.prog w1 = .ok (.string Z) w1 := by rw [← HZ.out]; exact bytes_conv o1.reads
    have K1 := hid k1
    clear o1 k1
    go_wp2_with fail
    go_ret
    refine ⟨w1.heap.size + 1, .slice (some ⟨w1.heap.size, 0, none⟩) 1 1, ?_, by have := K1.out.size; omega, fun k hk => ?_, ?_, (K1.out.alloc _).alloc _⟩
    · first | rfl | (simp; done)
    · have h1 : w1.heap.size = k := Option.some.inj hk
      have := K1.out.size
      omega
    · have hr := heap_alloc_new (w1.alloc (.cells #[.string Z] 9)) (.cells #[.slice none 0 0, .slice (some ⟨w1.heap.size, 0, none⟩) 1 1, .int .i64 16] 70)
      rw [World.size_alloc] at hr
      have ro := (heap_alloc_old (w1.alloc (.cells #[.string Z] 9)) (.cells #[.slice none 0 0, .slice (some ⟨w1.heap.size, 0, none⟩) 1 1, .int .i64 16] 70) (by rw [World.size_alloc]; exact Nat.lt_succ_self _)).trans (heap_alloc_new w1 _)
      refine ⟨by unfold newR; rw [RN.out]; exact hr, OwnR.nil _, ?_, fun h => (by cases h), fun h => (by have h1 : w1.heap.size = w1.heap.size + 1 := Option.some.inj h; omega), fun k hk => (by cases hk), fun s hs => (by simp [newR] at hs; rw [hs]; rfl), rfl⟩
      exact ⟨by simp [newR, flatS], .inr ⟨w1.heap.size, 1, _, rfl, Nat.zero_le _, ro, by simp [newR], by decide, rfl, by simp [newR, flatS]; rw [← HZ.out]; rfl⟩⟩
  · have RN : Hid (ringOf n = n) := hid (by unfold ringOf; omega)
    go_wp2_with (at_make; refine wpList_plain rfl (fun K hK => wp_make_bytes _ _ _ rfl 32 32 rfl rfl (by decide) (by decide) ?_))
    intro w1 o1 k1
    refine hK _ _ ?_
    clear hK K
    have CV : (convert 22 9 (.slice (some ⟨w.heap.size, 0, none⟩) 32 32)).run Try.prog w1 = .ok (.string Z) w1 := by rw [← HZ.out]; exact bytes_conv o1.reads
    have K1 := hid k1
    clear o1 k1
    go_wp2_with fail
    go_ret
    refine ⟨w1.heap.size + 1, .slice (some ⟨w1.heap.size, 0, none⟩) 1 1, ?_, by have := K1.out.size; omega, fun k hk => ?_, ?_, (K1.out.alloc _).alloc _⟩
    · first | rfl | (simp; done)
    · have h1 : w1.heap.size = k := Option.some.inj hk
      have := K1.out.size
      omega
    · have hr := heap_alloc_new (w1.alloc (.cells #[.string Z] 9)) (.cells #[.slice none 0 0, .slice (some ⟨w1.heap.size, 0, none⟩) 1 1, .int .i64 n] 70)
      rw [World.size_alloc] at hr
      have ro := (heap_alloc_old (w1.alloc (.cells #[.string Z] 9)) (.cells #[.slice none 0 0, .slice (some ⟨w1.heap.size, 0, none⟩) 1 1, .int .i64 n] 70) (by rw [World.size_alloc]; exact Nat.lt_succ_self _)).trans (heap_alloc_new w1 _)
      refine ⟨by unfold newR; rw [RN.out]; exact hr, OwnR.nil _, ?_, fun h => (by cases h), fun h => (by have h1 : w1.heap.size = w1.heap.size + 1 := Option.some.inj h; omega), fun k hk => (by cases hk), fun s hs => (by simp [newR] at hs; rw [hs]; rfl), rfl⟩
      exact ⟨by simp [newR, flatS], .inr ⟨w1.heap.size, 1, _, rfl, Nat.zero_le _, ro, by simp [newR], by decide, rfl, by simp [newR, flatS]; rw [← HZ.out]; rfl⟩⟩
end Go.Proofs.Ytpijnpapmdnceaa
