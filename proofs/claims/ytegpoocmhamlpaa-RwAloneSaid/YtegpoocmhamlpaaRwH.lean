/- The walks of the reference's RW: hand. -/
import Derived.Test.YtegpoocmhamlpaaRwG
namespace Go.Proofs.Ytegpoocmhamlpaa
open Go Go.RowKit

theorem ReadI.spot {w : World} {v : Value} {l : List Int} (h : ReadI w v l) {n : Nat} (hn : l.length = n) (hp : 0 < n) : ∃ g off c, v = .slice (some ⟨g, off, none⟩) n c ∧ n ≤ maxLen ∧ ∀ i, i < n → w.cell? ⟨g, off + i, none⟩ = some (.int .i64 (nth l i)) := by
  rcases h with ⟨_, _, _, h0⟩ | ⟨g, off, c, h1, _, h2, h3⟩
  · rw [h0] at hn; simp at hn; omega
  · rw [hn] at h1 h2 h3
    exact ⟨g, off, c, h1, h2, h3⟩

/-- A task has it, behind all others. -/
def mv (E : List On) (t : Int) : List On := E.eraseIdx ((E.map (·.1)).idxOf t) ++ [((at3 E ((E.map (·.1)).idxOf t)).1, (at3 E ((E.map (·.1)).idxOf t)).2.1, true)]

theorem mv_length {E : List On} {t : Int} (h : t ∈ E.map (·.1)) : (mv E t).length = E.length := by
  have hi : (E.map (·.1)).idxOf t < E.length := by simpa using List.idxOf_lt_length_iff.2 h
  unfold mv
  rw [List.length_append, List.length_eraseIdx_of_lt hi]
  simp; omega

theorem mv_mem {E : List On} {t : Int} (h : t ∈ E.map (·.1)) (x : Int) (hx : x ∈ E.map (·.1)) : x ∈ (mv E t).map (·.1) := by
  have hi' : (E.map (·.1)).idxOf t < (E.map (·.1)).length := List.idxOf_lt_length_iff.2 h
  have hi : (E.map (·.1)).idxOf t < E.length := by simpa using hi'
  have ht : (at3 E ((E.map (·.1)).idxOf t)).1 = t := by
    rw [← at3_fst E _ hi, nth_get _ _ hi']; exact List.getElem_idxOf hi'
  unfold mv
  rw [List.map_append, List.mem_append]
  by_cases e : x = t
  · exact .inr (by simp [ht, e])
  · refine .inl ?_
    obtain ⟨j, hj, hje⟩ := List.mem_iff_getElem.1 hx
    rw [List.length_map] at hj
    rw [List.mem_map]
    refine ⟨E[j], ?_, by simpa using hje⟩
    rw [List.mem_eraseIdx_iff_getElem]
    refine ⟨j, hj, fun e2 => e ?_, rfl⟩
    subst e2
    rw [← hje]
    exact List.getElem_idxOf hi'

/-- Who is told, and what is there then. -/
def tho (E : List On) : List Int :=
  if (tsk E true true).headD 0 ≠ 0 then [] else if (tsk E true false).length = 0 then tsk E false false else if (tsk E false true).length = 0 then (tsk E true false).take 1 else []

theorem tsk_mem {E : List On} {a c : Bool} {x : Int} (h : x ∈ tsk E a c) : x ∈ E.map (·.1) := by
  unfold tsk at h
  rw [List.mem_map] at h ⊢
  obtain ⟨p, hp, he⟩ := h
  exact ⟨p, (List.mem_filter.1 hp).1, he⟩

theorem fold_mem (o : List Int) : ∀ (E : List On), (∀ x ∈ o, x ∈ E.map (·.1)) → (o.foldl mv E).length = E.length ∧ ∀ x, x ∈ E.map (·.1) → x ∈ (o.foldl mv E).map (·.1) := by
  induction o with
  | nil => intro E _; exact ⟨rfl, fun x h => h⟩
  | cons t o ih =>
    intro E h
    have ht := h t (by simp)
    obtain ⟨h1, h2⟩ := ih (mv E t) fun x hx => mv_mem ht x (h x (List.mem_cons_of_mem _ hx))
    rw [List.foldl_cons]
    exact ⟨h1.trans (mv_length ht), fun x hx => h2 x (mv_mem ht x hx)⟩

theorem fold_take (o : List Int) (E : List On) (j : Nat) (h : j < o.length) : (o.take (j + 1)).foldl mv E = mv ((o.take j).foldl mv E) (nth o j) := by
  rw [List.take_succ_eq_append_getElem h, List.foldl_append, nth_get o j h]; rfl

section
variable {w0 w w' : World} {G : Nat → Prop} {b : Nat} {E : List On}

set_option maxRecDepth 10000 in
set_option maxHeartbeats 2000000 in
theorem thand_read (h : MNew 58 w0 w G b (tcs E)) (hn : E.length ≤ 1000) (hd : (tsk E true true).headD 0 = 0) (hl : (tsk E true false).length = 0) :
    Calls Try.prog 65 #[.pointer (some ⟨b, 0, none⟩)] w fun en w' => ∃ a m, en = .returned (.slice a (tsk E false false).length m) ∧ OutM 58 w0 G w w' b (tcs ((tsk E false false).foldl mv E)) a m (tsk E false false) := by
  have hT : ∀ x ∈ tsk E false false, x ∈ E.map (·.1) := fun x hx => tsk_mem hx
  have HTL := tsk_len E false false
  obtain ⟨T, hTe⟩ : ∃ T, tsk E false false = T := ⟨_, rfl⟩
  have HTE := hid hTe
  rw [hTe] at hT HTL ⊢
  have HT := hid hT
  clear hT hTe
  have HH := hid h
  have HD := hid hd
  have HL := hid hl
  clear h hd hl
  have kA : Keep (fun _ => False) w (w.alloc (.cells #[] 3)) := (Keep.refl _ _).alloc _
  have NA := hid (HH.out.quiet kA)
  have KA := hid kA
  clear kA
  go_enter Try.func65, Try.ntmps65
  go_wp2_with fail
  refine (twriter_any NA.out hn).mono ?_
  rintro _ W1 ⟨rfl, K1⟩
  rw [HD.out]
  have N1 := hid (NA.out.quiet K1)
  have KW := hid (KA.out.trans K1)
  clear K1
  go_wp2_with fail
  refine (ttasks_any true false N1.out hn).mono ?_
  rintro _ W2 ⟨a2, n2, rfl, -, K2, -⟩
  have N2 := hid (N1.out.quiet K2)
  have KW2 := hid (KW.out.trans K2)
  rw [HL.out]
  clear K2
  go_wp2_with fail
  refine (ttasks_any false false N2.out hn).mono ?_
  rintro _ W3 ⟨a3, n3, rfl, o3, K3, f3⟩
  rw [HTE.out] at o3 f3 ⊢
  have N3 := hid (N2.out.quiet K3)
  have KW3 := hid (KW2.out.trans K3)
  have F3 := hid (fun k hk => Nat.le_trans KW2.out.size (f3 k hk) : ∀ k, (Value.slice a3 T.length n3).ownBlock = some k → w.heap.size ≤ k)
  have F3' := hid (fun k hk hg => by have := N2.out.1.2.1 k hg; have := f3 k hk; omega : ∀ k, (Value.slice a3 T.length n3).ownBlock = some k → ¬ G k)
  have O3 := hid o3
  clear K3 f3 o3
  go_wp2_with fail
  have R3 := hid O3.out.reads
  have FL := hid (fun k hk => own_lt O3.out hk : ∀ k, (Value.slice a3 T.length n3).ownBlock = some k → k < W3.heap.size)
  have KG := hid (KW3.out.mono fun _ _ h => h.elim : Keep G w W3)
  clear N2 N1 NA KA KW KW2 O3
  go_loopw [5] (fun i wr => ∃ (j : Nat) (G1 : Nat → Prop), j ≤ T.length ∧ i = .int .i64 j ∧ MNew 58 w0 wr G1 b (tcs ((T.take j).foldl mv E)) ∧ (∀ k, G1 k → G k ∨ w.heap.size ≤ k) ∧ Keep G w wr ∧ ReadI wr (.slice a3 T.length n3) T ∧ ∀ k, (Value.slice a3 T.length n3).ownBlock = some k → k < wr.heap.size ∧ ¬ G1 k) (fun i _ => T.length - (intOf i).toNat)
  case atStart => exact ⟨0, G, Nat.zero_le _, rfl, N3.out, fun k h => .inl h, KG.out, R3.out, fun k hk => ⟨FL.out k hk, F3'.out k hk⟩⟩
  case round =>
    obtain ⟨j, G1, hj, rfl, hN, hJ, hK, hR, hA⟩ := hrel
    have N := hid hN
    have J := hid hJ
    have K0 := hid hK
    have R := hid hR
    have A := hid hA
    clear hN hJ hK hR hA
    by_cases hlt : j < T.length
    · have hlt' : (j : Int) < (T.length : Int) := by omega
      obtain ⟨g, off, c, hv, hmx, hc⟩ := R.out.spot rfl (by omega)
      cases hv
      have kT := hc j hlt
      have FT := hid (fold_take T E j hlt)
      have hTj : ∀ x ∈ T.take j, x ∈ E.map (·.1) := fun x hx => HT.out x (List.mem_of_mem_take hx)
      obtain ⟨eL, eM⟩ := fold_mem (T.take j) E hTj
      have hmem : nth T j ∈ ((T.take j).foldl mv E).map (·.1) := eM _ (HT.out _ (by rw [nth_get _ _ hlt]; exact List.getElem_mem hlt))
      obtain ⟨t, ht⟩ : ∃ t, nth T j = t := ⟨_, rfl⟩
      rw [ht] at kT FT hmem
      obtain ⟨Ej, hEj⟩ : ∃ Ej, (T.take j).foldl mv E = Ej := ⟨_, rfl⟩
      rw [hEj] at N FT eL hmem
      have hn2 : Ej.length ≤ 1000 := by omega
      have hi : (Ej.map (·.1)).idxOf t < Ej.length := by simpa using List.idxOf_lt_length_iff.2 hmem
      have IX := hid (idx_in hmem)
      have HMV : Hid (mv Ej t = Ej.eraseIdx ((Ej.map (·.1)).idxOf t) ++ [((at3 Ej ((Ej.map (·.1)).idxOf t)).1, (at3 Ej ((Ej.map (·.1)).idxOf t)).2.1, true)]) := hid rfl
      generalize (Ej.map (·.1)).idxOf t = i at hi IX HMV
      obtain ⟨p, hp⟩ : ∃ p, at3 Ej i = p := ⟨_, rfl⟩
      rw [hp] at HMV
      have HP := hid hp
      have hi0 : (0 : Int) ≤ (i : Int) := by omega
      unfold maxLen at hmx
      clear hc ht hEj hmem eM hTj hp
      go_wp2_with fail
      refine (tat_any t N.out hn2).mono ?_
      rintro _ _ ⟨rfl, rfl⟩
      rw [IX.out]
      go_wp2_with fail
      refine (tout_any i hi N.out hn2).mono ?_
      rintro _ W5 ⟨rfl, G5, N5, J5, K5⟩
      rw [HP.out]
      unfold agg3
      have N5 := hid N5
      have R5 := hid (R.out.keep K5 fun k hk => (A.out k hk).2)
      have A5 := hid (fun k hk => ⟨Nat.lt_of_lt_of_le (A.out k hk).1 K5.size, fun h => (J5 k h).elim (A.out k hk).2 (fun h => by have := (A.out k hk).1; omega)⟩ : ∀ k, (Value.slice (some ⟨g, off, none⟩) T.length n3).ownBlock = some k → k < W5.heap.size ∧ ¬ G5 k)
      have J5' := hid (fun k hk => (J5 k hk).elim (J.out k) (fun h => .inr (Nat.le_trans K0.out.size h)) : ∀ k, G5 k → G k ∨ w.heap.size ≤ k)
      have K5' := hid (K0.out.then K5 J.out)
      clear J5 K5 kT
      have kb : Keep (fun _ => False) W5 (W5.alloc (.cells #[.int .i64 p.1, .bool p.2.1, .bool true] 92)) := (Keep.refl _ _).alloc _
      have Nb := N5.out.quiet kb
      have Rb := hid (R5.out.keep kb fun _ _ h => h)
      have x0 : (W5.alloc (.cells #[.int .i64 p.1, .bool p.2.1, .bool true] 92)).cell? ⟨W5.heap.size, 0, none⟩ = some (.int .i64 p.1) := by rw [World.cell?_alloc_new]; rfl
      have x1 : (W5.alloc (.cells #[.int .i64 p.1, .bool p.2.1, .bool true] 92)).cell? ⟨W5.heap.size, 1, none⟩ = some (.bool p.2.1) := by rw [World.cell?_alloc_new]; rfl
      have x2 : (W5.alloc (.cells #[.int .i64 p.1, .bool p.2.1, .bool true] 92)).cell? ⟨W5.heap.size, 2, none⟩ = some (.bool true) := by rw [World.cell?_alloc_new]; rfl
      have hsb : (W5.alloc (.cells #[.int .i64 p.1, .bool p.2.1, .bool true] 92)).heap.size = W5.heap.size + 1 := World.size_alloc _ _
      have KB := hid kb
      go_wp2_with fail
      obtain ⟨Wb, hWb⟩ : ∃ x, W5.alloc (.cells #[.int .i64 p.1, .bool p.2.1, .bool true] 92) = x := ⟨_, rfl⟩
      rw [hWb] at Nb Rb x0 x1 x2 hsb KB ⊢
      clear hWb kb
      obtain ⟨hGb, vs, v, hM, hvs, v0, oE, c0⟩ := Nb.tk
      have NB := hid Nb
      have M := hid hM
      have GV := hid hvs
      have V0 := hid v0
      have lb := hM.lt
      obtain ⟨aE, cE, hvE⟩ := oE.form
      have HVE := hid hvE
      have OE := hid oE
      rw [hvE] at c0
      have SB := hid hsb
      have lq : W5.heap.size < Wb.heap.size := by omega
      have hE1 : (Ej.eraseIdx i).length ≤ 1000 := Nat.le_trans (List.length_eraseIdx_le _ _) hn2
      clear hM hvs v0 oE hvE Nb hsb
      refine wp_region_text [0,0,0,0,0,0,2,2,0,0,3] (fun W => W.cell? ⟨b, 0, none⟩ = some (.slice aE (Ej.eraseIdx i).length cE) ∧ W.cell? ⟨W5.heap.size, 0, none⟩ = some (.int .i64 p.1) ∧ W.cell? ⟨W5.heap.size, 1, none⟩ = some (.bool p.2.1) ∧ W.cell? ⟨W5.heap.size, 2, none⟩ = some (.bool true)) (by kernel_rfl) (by kernel_rfl) ⟨c0, x0, x1, x2⟩ ?_
      repeat (first
        | (refine' wpT_calm (v := _) (by rfl) (fun W hW => ?_) ?_; rotate_left
           · ((try dsimp only at hW); go_simp; first | done | rfl)
           simp only [Act.put, List.setIfInBounds_toArray, List.set_cons_zero, List.set_cons_succ])
        | (refine' wpT_reads (v := _) (by rfl) ?_ ?_; rotate_left
           · (go_simp; first | done | rfl)
           simp only [Act.put, List.setIfInBounds_toArray, List.set_cons_zero, List.set_cons_succ])
        | (refine wpT_skip (by rfl) rfl ?_; simp only [Act.put, List.setIfInBounds_toArray, List.set_cons_zero, List.set_cons_succ])
        | (refine wpT_does (by rfl) (fun K hK => ?_); go_simp; refine hK _ _ ?_ ?_
           · (trivial)
           clear hK K; try simp only [Act.put, List.setIfInBounds_toArray, List.set_cons_zero, List.set_cons_succ])
        | (refine wpT_last (by rfl) (fun K hK => ?_); go_simp; refine hK _ _ ?_; clear hK K)
        | (refine wpT_nil ?_))
      refine wpT_does (by rfl) (fun K hK => ?_)
      go_simp
      have kc : Keep (fun _ => False) Wb (Wb.alloc (.cells #[.int .i64 p.1, .bool p.2.1, .bool true] 92)).drew := ((Keep.refl _ _).alloc _).drew
      have own := OE.out.keep kc fun _ _ h => h
      rw [HVE.out] at own
      have hsrc : Src (Wb.alloc (.cells #[.int .i64 p.1, .bool p.2.1, .bool true] 92)).drew (.slice (some ⟨Wb.heap.size, 0, none⟩) 1 1) 1 3 (flat3 [(p.1, p.2.1, true)]) := one_srcT Wb (p.1, p.2.1, true)
      have y0 := (kc.cell (p := ⟨b, 0, none⟩) lb (fun h => h)).trans c0
      have y1 := (kc.cell (p := ⟨W5.heap.size, 0, none⟩) lq (fun h => h)).trans x0
      have y2 := (kc.cell (p := ⟨W5.heap.size, 1, none⟩) lq (fun h => h)).trans x1
      have y3 := (kc.cell (p := ⟨W5.heap.size, 2, none⟩) lq (fun h => h)).trans x2
      have GL : ∀ k, v.ownBlock = some k → k < W5.heap.size := fun k hk => N5.out.1.2.1 k (GV.out v (List.mem_of_getElem? V0.out) k hk)
      have nb : v.ownBlock ≠ some b := by
        obtain ⟨cc, _, hf⟩ := M.out.mob.at V0.out
        exact hf.ne
      refine hK _ _ ⟨y0, y1, y2, y3⟩ ?_
      clear hK K c0 x0 x1 x2
      try simp only [Act.put, List.setIfInBounds_toArray, List.set_cons_zero, List.set_cons_succ]
      repeat (first
        | (refine' wpT_calm (v := _) (by rfl) (fun W hW => ?_) ?_; rotate_left
           · ((try dsimp only at hW); go_simp; first | done | rfl)
           simp only [Act.put, List.setIfInBounds_toArray, List.set_cons_zero, List.set_cons_succ])
        | (refine' wpT_reads (v := _) (by rfl) ?_ ?_; rotate_left
           · (go_simp; first | done | rfl)
           simp only [Act.put, List.setIfInBounds_toArray, List.set_cons_zero, List.set_cons_succ])
        | (refine wpT_skip (by rfl) rfl ?_; simp only [Act.put, List.setIfInBounds_toArray, List.set_cons_zero, List.set_cons_succ])
        | (refine wpT_does (by rfl) (fun K hK => ?_); go_simp; refine hK _ _ ?_ ?_
           · (trivial)
           clear hK K; try simp only [Act.put, List.setIfInBounds_toArray, List.set_cons_zero, List.set_cons_succ])
        | (refine wpT_last (by rfl) (fun K hK => ?_); go_simp; refine hK _ _ ?_; clear hK K)
        | (refine wpT_nil ?_))
      refine wpT_does (by rfl) (fun K hK => ?_)
      refine wp_append_ones _ (.tmp 44) (.tmp 46) rfl _ (Ej.eraseIdx i) rfl own _ 1 [(p.1, p.2.1, true)] rfl hsrc (by omega) ?_
      intro u Y o f k
      rw [← HVE.out] at k f
      have hsc : (Wb.alloc (.cells #[.int .i64 p.1, .bool p.2.1, .bool true] 92)).drew.heap.size = Wb.heap.size + 1 := World.size_alloc _ _
      have kz : Keep (fun k => v.ownBlock = some k) Wb Y := (kc.mono fun _ _ h => h.elim).trans k
      have st := NB.out.storedT M.out hGb GV.out V0.out kz o (fun x hx => (f x hx).elim .inl (fun h => .inr (by omega)))
      obtain ⟨h2, hf⟩ := M.out.sp V0.out kz
      rw [HVE.out] at h2
      have z1 := (k.cell (p := ⟨W5.heap.size, 0, none⟩) (World.block_lt_of_cell? _ _ y1) (fun h => Nat.lt_irrefl _ (GL _ h))).trans y1
      have z2 := (k.cell (p := ⟨W5.heap.size, 1, none⟩) (World.block_lt_of_cell? _ _ y2) (fun h => Nat.lt_irrefl _ (GL _ h))).trans y2
      have z3 := (k.cell (p := ⟨W5.heap.size, 2, none⟩) (World.block_lt_of_cell? _ _ y3) (fun h => Nat.lt_irrefl _ (GL _ h))).trans y3
      obtain ⟨G7, N7, J7, K7⟩ := st
      have N7' : MNew 58 w0 (Y.setCell ⟨b, 0, none⟩ u) G7 b (tcs (mv Ej t)) := by rw [HMV.out]; exact N7
      have N7' := hid N7'
      have J7' := hid (fun x hx => (J7 x hx).elim (J5'.out x) (fun h => .inr (by have := K5'.out.size; have := SB.out; omega)) : ∀ x, G7 x → G x ∨ w.heap.size ≤ x)
      have K7' := hid ((K5'.out.trans (KB.out.mono fun _ _ h => h.elim)).then K7 J5'.out)
      have R7 := hid (Rb.out.keep K7 fun x hx => (A5.out x hx).2)
      have A7 := hid (fun x hx => ⟨by have h1 := (A5.out x hx).1; have h2 := K7.size; have := SB.out; omega, fun h => (J7 x h).elim (A5.out x hx).2 (fun h => by have h1 := (A5.out x hx).1; have := SB.out; omega)⟩ : ∀ x, (Value.slice (some ⟨g, off, none⟩) T.length n3).ownBlock = some x → x < (Y.setCell ⟨b, 0, none⟩ u).heap.size ∧ ¬ G7 x)
      obtain ⟨au, cu, hu⟩ := o.form
      generalize (Ej.eraseIdx i ++ [(p.1, p.2.1, true)]).length = mu at hu
      subst hu
      refine hK _ _ ⟨h2, z1, z2, z3⟩ ?_
      clear hK K own hsrc y0 y1 y2 y3 o f k kz N7 J7 K7 kc GL nb hsc
      try simp only [Act.put, List.setIfInBounds_toArray, List.set_cons_zero, List.set_cons_succ]
      repeat (first
        | (refine' wpT_calm (v := _) (by rfl) (fun W hW => ?_) ?_; rotate_left
           · ((try dsimp only at hW); go_simp; first | done | rfl)
           simp only [Act.put, List.setIfInBounds_toArray, List.set_cons_zero, List.set_cons_succ])
        | (refine' wpT_reads (v := _) (by rfl) ?_ ?_; rotate_left
           · (go_simp; first | done | rfl)
           simp only [Act.put, List.setIfInBounds_toArray, List.set_cons_zero, List.set_cons_succ])
        | (refine wpT_skip (by rfl) rfl ?_; simp only [Act.put, List.setIfInBounds_toArray, List.set_cons_zero, List.set_cons_succ])
        | (refine wpT_does (by rfl) (fun K hK => ?_); go_simp; refine hK _ _ ?_ ?_
           · (trivial)
           clear hK K; try simp only [Act.put, List.setIfInBounds_toArray, List.set_cons_zero, List.set_cons_succ])
        | (refine wpT_last (by rfl) (fun K hK => ?_); go_simp; refine hK _ _ ?_; clear hK K)
        | (refine wpT_nil ?_))
      go_wp2_with fail
      go_roundw
      case rel => exact ⟨j + 1, G7, by omega, by go_num, by rw [FT.out]; exact N7'.out, J7'.out, K7'.out, R7.out, A7.out⟩
      case measure => simp [intOf]; omega
    obtain rfl : j = T.length := by omega
    have hlt' : ¬ ((T.length : Int) < (T.length : Int)) := by omega
    have N' := N.out
    rw [List.take_length] at N'
    have N2 := hid N'
    clear N' N
    go_wp2
    go_ret
    exact ⟨_, _, rfl, R.out, K0.out, G1, N2.out, J.out, fun k hk => ⟨.inr (F3.out k hk), A.out k hk⟩⟩
set_option maxRecDepth 10000 in
set_option maxHeartbeats 2000000 in
theorem thand_write (x : Int) (l : List Int) (h : MNew 58 w0 w G b (tcs E)) (hn : E.length ≤ 1000) (hd : (tsk E true true).headD 0 = 0) (hl : tsk E true false = x :: l) (hr : (tsk E false true).length = 0) :
    Calls Try.prog 65 #[.pointer (some ⟨b, 0, none⟩)] w fun en w' => ∃ a m, en = .returned (.slice a 1 m) ∧ OutM 58 w0 G w w' b (tcs (mv E x)) a m [x] := by
  have HH := hid h
  have HD := hid hd
  have HLE := hid hl
  have HR := hid hr
  have hT : ∀ y ∈ [x], y ∈ E.map (·.1) := fun y hy => by
    obtain rfl := List.mem_singleton.1 hy
    exact tsk_mem (a := true) (c := false) (by rw [hl]; simp)
  have hlen : (x :: l).length ≤ 1000 := by rw [← hl]; exact Nat.le_trans (tsk_len _ _ _) hn
  obtain ⟨T, hTe⟩ : ∃ T, [x] = T := ⟨_, rfl⟩
  have HTE := hid hTe
  have HTL : T.length = 1 := by rw [← hTe]; rfl
  have HFE : Hid (mv E x = T.foldl mv E) := hid (by rw [← hTe]; rfl)
  rw [hTe] at hT ⊢
  rw [HFE.out]
  have HT := hid hT
  have e1 : (1 : Nat) = T.length := HTL.symm
  have HE1 := hid e1
  suffices hs : Calls Try.prog 65 #[.pointer (some ⟨b, 0, none⟩)] w fun en w' => ∃ a m, en = .returned (.slice a T.length m) ∧ OutM 58 w0 G w w' b (tcs (T.foldl mv E)) a m T by
    rw [HTL] at hs; exact hs
  clear h hd hl hr hT hTe e1 HFE
  have kA : Keep (fun _ => False) w (w.alloc (.cells #[] 3)) := (Keep.refl _ _).alloc _
  have NA := hid (HH.out.quiet kA)
  have KA := hid kA
  clear kA
  obtain ⟨m, hm⟩ : ∃ m : Nat, (x :: l).length = m := ⟨_, rfl⟩
  have HM := hid hm
  rw [hm] at hlen
  have hmp : 0 < m := by rw [← hm]; simp
  have hm0 : ((m : Int) == 0) = false := by simp; omega
  clear hm
  have HTL2 := hid HTL
  clear HTL
  go_enter Try.func65, Try.ntmps65
  go_wp2_with fail
  refine (twriter_any NA.out hn).mono ?_
  rintro _ W1 ⟨rfl, K1⟩
  rw [HD.out]
  have N1 := hid (NA.out.quiet K1)
  have KW := hid (KA.out.trans K1)
  clear K1
  go_wp2_with fail
  refine (ttasks_any true false N1.out hn).mono ?_
  rintro _ W2 ⟨a3, n3, rfl, o2, K2, f2⟩
  rw [HLE.out] at o2 f2 ⊢
  have N2 := hid (N1.out.quiet K2)
  have KW2 := hid (KW.out.trans K2)
  have F2 := hid (fun k hk => Nat.le_trans KW.out.size (f2 k hk) : ∀ k, (Value.slice a3 (x :: l).length n3).ownBlock = some k → w.heap.size ≤ k)
  have F2' := hid (fun k hk hg => by have := N1.out.1.2.1 k hg; have := f2 k hk; omega : ∀ k, (Value.slice a3 (x :: l).length n3).ownBlock = some k → ¬ G k)
  have O2 := hid o2
  have hcap := own_cap o2
  rw [HM.out] at hcap ⊢
  have hcap1 : (1 : Int) ≤ (n3 : Int) := by omega
  have hcap2 : 1 ≤ n3 := by omega
  clear K2 o2 f2
  go_wp2_with fail
  refine (ttasks_any false true N2.out hn).mono ?_
  rintro _ W3 ⟨a4, n4, rfl, -, K3, -⟩
  rw [HR.out]
  have N3 := hid (N2.out.quiet K3)
  have KW3 := hid (KW2.out.trans K3)
  have O3 := hid (O2.out.keep K3 fun _ _ h => h)
  have r3 : ReadI W3 (.slice a3 1 n3) [x] := by
    rcases O3.out.reads with ⟨_, _, _, h0⟩ | ⟨g, off, c, h1, hg, hmx, hc⟩
    · cases h0
    · simp only [Value.slice.injEq] at h1
      obtain ⟨rfl, _, rfl⟩ := h1
      refine .inr ⟨g, off, _, rfl, hg, by simp [maxLen], fun i hi => ?_⟩
      have := hc i (by simp at hi ⊢; omega)
      simp only [List.length_cons, List.length_nil] at hi
      obtain rfl : i = 0 := by omega
      exact this
  have o3l : ∀ k, (Value.slice a3 1 n3).ownBlock = some k → k < W3.heap.size := fun k hk => own_lt O3.out (by cases a3 <;> exact hk)
  have F3 := hid (fun k hk => F2.out k (by cases a3 <;> exact hk) : ∀ k, (Value.slice a3 T.length n3).ownBlock = some k → w.heap.size ≤ k)
  have F3' := hid (fun k hk => F2'.out k (by cases a3 <;> exact hk) : ∀ k, (Value.slice a3 T.length n3).ownBlock = some k → ¬ G k)
  have R3 := hid (by rw [← HTE.out]; exact r3 : ReadI W3 (.slice a3 T.length n3) T)
  have FL := hid (fun k hk => o3l k (by cases a3 <;> exact hk) : ∀ k, (Value.slice a3 T.length n3).ownBlock = some k → k < W3.heap.size)
  have KG := hid (KW3.out.mono fun _ _ h => h.elim : Keep G w W3)
  have HTL := HTL2.out
  have HTE1 : T.length ≤ 1000 := by omega
  clear K3 r3 o3l
  go_wp2_with fail
  go_loopw [5] (fun i wr => ∃ (j : Nat) (G1 : Nat → Prop), j ≤ T.length ∧ i = .int .i64 j ∧ MNew 58 w0 wr G1 b (tcs ((T.take j).foldl mv E)) ∧ (∀ k, G1 k → G k ∨ w.heap.size ≤ k) ∧ Keep G w wr ∧ ReadI wr (.slice a3 T.length n3) T ∧ ∀ k, (Value.slice a3 T.length n3).ownBlock = some k → k < wr.heap.size ∧ ¬ G1 k) (fun i _ => T.length - (intOf i).toNat)
  case atStart => exact ⟨0, G, Nat.zero_le _, rfl, N3.out, fun k h => .inl h, KG.out, R3.out, fun k hk => ⟨FL.out k hk, F3'.out k hk⟩⟩
  case round =>
    obtain ⟨j, G1, hj, rfl, hN, hJ, hK, hR, hA⟩ := hrel
    have N := hid hN
    have J := hid hJ
    have K0 := hid hK
    have R := hid hR
    have A := hid hA
    clear hN hJ hK hR hA
    by_cases hlt : j < T.length
    · have hlt' : (j : Int) < (T.length : Int) := by omega
      obtain ⟨g, off, c, hv, hmx, hc⟩ := R.out.spot rfl (by omega)
      cases hv
      have kT := hc j hlt
      have FT := hid (fold_take T E j hlt)
      have hTj : ∀ x ∈ T.take j, x ∈ E.map (·.1) := fun x hx => HT.out x (List.mem_of_mem_take hx)
      obtain ⟨eL, eM⟩ := fold_mem (T.take j) E hTj
      have hmem : nth T j ∈ ((T.take j).foldl mv E).map (·.1) := eM _ (HT.out _ (by rw [nth_get _ _ hlt]; exact List.getElem_mem hlt))
      obtain ⟨t, ht⟩ : ∃ t, nth T j = t := ⟨_, rfl⟩
      rw [ht] at kT FT hmem
      obtain ⟨Ej, hEj⟩ : ∃ Ej, (T.take j).foldl mv E = Ej := ⟨_, rfl⟩
      rw [hEj] at N FT eL hmem
      have hn2 : Ej.length ≤ 1000 := by omega
      have hi : (Ej.map (·.1)).idxOf t < Ej.length := by simpa using List.idxOf_lt_length_iff.2 hmem
      have IX := hid (idx_in hmem)
      have HMV : Hid (mv Ej t = Ej.eraseIdx ((Ej.map (·.1)).idxOf t) ++ [((at3 Ej ((Ej.map (·.1)).idxOf t)).1, (at3 Ej ((Ej.map (·.1)).idxOf t)).2.1, true)]) := hid rfl
      generalize (Ej.map (·.1)).idxOf t = i at hi IX HMV
      obtain ⟨p, hp⟩ : ∃ p, at3 Ej i = p := ⟨_, rfl⟩
      rw [hp] at HMV
      have HP := hid hp
      have hi0 : (0 : Int) ≤ (i : Int) := by omega
      unfold maxLen at hmx
      clear hc ht hEj hmem eM hTj hp
      go_wp2_with fail
      refine (tat_any t N.out hn2).mono ?_
      rintro _ _ ⟨rfl, rfl⟩
      rw [IX.out]
      go_wp2_with fail
      refine (tout_any i hi N.out hn2).mono ?_
      rintro _ W5 ⟨rfl, G5, N5, J5, K5⟩
      rw [HP.out]
      unfold agg3
      have N5 := hid N5
      have R5 := hid (R.out.keep K5 fun k hk => (A.out k hk).2)
      have A5 := hid (fun k hk => ⟨Nat.lt_of_lt_of_le (A.out k hk).1 K5.size, fun h => (J5 k h).elim (A.out k hk).2 (fun h => by have := (A.out k hk).1; omega)⟩ : ∀ k, (Value.slice (some ⟨g, off, none⟩) T.length n3).ownBlock = some k → k < W5.heap.size ∧ ¬ G5 k)
      have J5' := hid (fun k hk => (J5 k hk).elim (J.out k) (fun h => .inr (Nat.le_trans K0.out.size h)) : ∀ k, G5 k → G k ∨ w.heap.size ≤ k)
      have K5' := hid (K0.out.then K5 J.out)
      clear J5 K5 kT
      have kb : Keep (fun _ => False) W5 (W5.alloc (.cells #[.int .i64 p.1, .bool p.2.1, .bool true] 92)) := (Keep.refl _ _).alloc _
      have Nb := N5.out.quiet kb
      have Rb := hid (R5.out.keep kb fun _ _ h => h)
      have x0 : (W5.alloc (.cells #[.int .i64 p.1, .bool p.2.1, .bool true] 92)).cell? ⟨W5.heap.size, 0, none⟩ = some (.int .i64 p.1) := by rw [World.cell?_alloc_new]; rfl
      have x1 : (W5.alloc (.cells #[.int .i64 p.1, .bool p.2.1, .bool true] 92)).cell? ⟨W5.heap.size, 1, none⟩ = some (.bool p.2.1) := by rw [World.cell?_alloc_new]; rfl
      have x2 : (W5.alloc (.cells #[.int .i64 p.1, .bool p.2.1, .bool true] 92)).cell? ⟨W5.heap.size, 2, none⟩ = some (.bool true) := by rw [World.cell?_alloc_new]; rfl
      have hsb : (W5.alloc (.cells #[.int .i64 p.1, .bool p.2.1, .bool true] 92)).heap.size = W5.heap.size + 1 := World.size_alloc _ _
      have KB := hid kb
      go_wp2_with fail
      obtain ⟨Wb, hWb⟩ : ∃ x, W5.alloc (.cells #[.int .i64 p.1, .bool p.2.1, .bool true] 92) = x := ⟨_, rfl⟩
      rw [hWb] at Nb Rb x0 x1 x2 hsb KB ⊢
      clear hWb kb
      obtain ⟨hGb, vs, v, hM, hvs, v0, oE, c0⟩ := Nb.tk
      have NB := hid Nb
      have M := hid hM
      have GV := hid hvs
      have V0 := hid v0
      have lb := hM.lt
      obtain ⟨aE, cE, hvE⟩ := oE.form
      have HVE := hid hvE
      have OE := hid oE
      rw [hvE] at c0
      have SB := hid hsb
      have lq : W5.heap.size < Wb.heap.size := by omega
      have hE1 : (Ej.eraseIdx i).length ≤ 1000 := Nat.le_trans (List.length_eraseIdx_le _ _) hn2
      clear hM hvs v0 oE hvE Nb hsb
      refine wp_region_text [0,0,0,0,0,0,2,2,0,0,3] (fun W => W.cell? ⟨b, 0, none⟩ = some (.slice aE (Ej.eraseIdx i).length cE) ∧ W.cell? ⟨W5.heap.size, 0, none⟩ = some (.int .i64 p.1) ∧ W.cell? ⟨W5.heap.size, 1, none⟩ = some (.bool p.2.1) ∧ W.cell? ⟨W5.heap.size, 2, none⟩ = some (.bool true)) (by kernel_rfl) (by kernel_rfl) ⟨c0, x0, x1, x2⟩ ?_
      repeat (first
        | (refine' wpT_calm (v := _) (by rfl) (fun W hW => ?_) ?_; rotate_left
           · ((try dsimp only at hW); go_simp; first | done | rfl)
           simp only [Act.put, List.setIfInBounds_toArray, List.set_cons_zero, List.set_cons_succ])
        | (refine' wpT_reads (v := _) (by rfl) ?_ ?_; rotate_left
           · (go_simp; first | done | rfl)
           simp only [Act.put, List.setIfInBounds_toArray, List.set_cons_zero, List.set_cons_succ])
        | (refine wpT_skip (by rfl) rfl ?_; simp only [Act.put, List.setIfInBounds_toArray, List.set_cons_zero, List.set_cons_succ])
        | (refine wpT_does (by rfl) (fun K hK => ?_); go_simp; refine hK _ _ ?_ ?_
           · (trivial)
           clear hK K; try simp only [Act.put, List.setIfInBounds_toArray, List.set_cons_zero, List.set_cons_succ])
        | (refine wpT_last (by rfl) (fun K hK => ?_); go_simp; refine hK _ _ ?_; clear hK K)
        | (refine wpT_nil ?_))
      refine wpT_does (by rfl) (fun K hK => ?_)
      go_simp
      have kc : Keep (fun _ => False) Wb (Wb.alloc (.cells #[.int .i64 p.1, .bool p.2.1, .bool true] 92)).drew := ((Keep.refl _ _).alloc _).drew
      have own := OE.out.keep kc fun _ _ h => h
      rw [HVE.out] at own
      have hsrc : Src (Wb.alloc (.cells #[.int .i64 p.1, .bool p.2.1, .bool true] 92)).drew (.slice (some ⟨Wb.heap.size, 0, none⟩) 1 1) 1 3 (flat3 [(p.1, p.2.1, true)]) := one_srcT Wb (p.1, p.2.1, true)
      have y0 := (kc.cell (p := ⟨b, 0, none⟩) lb (fun h => h)).trans c0
      have y1 := (kc.cell (p := ⟨W5.heap.size, 0, none⟩) lq (fun h => h)).trans x0
      have y2 := (kc.cell (p := ⟨W5.heap.size, 1, none⟩) lq (fun h => h)).trans x1
      have y3 := (kc.cell (p := ⟨W5.heap.size, 2, none⟩) lq (fun h => h)).trans x2
      have GL : ∀ k, v.ownBlock = some k → k < W5.heap.size := fun k hk => N5.out.1.2.1 k (GV.out v (List.mem_of_getElem? V0.out) k hk)
      have nb : v.ownBlock ≠ some b := by
        obtain ⟨cc, _, hf⟩ := M.out.mob.at V0.out
        exact hf.ne
      refine hK _ _ ⟨y0, y1, y2, y3⟩ ?_
      clear hK K c0 x0 x1 x2
      try simp only [Act.put, List.setIfInBounds_toArray, List.set_cons_zero, List.set_cons_succ]
      repeat (first
        | (refine' wpT_calm (v := _) (by rfl) (fun W hW => ?_) ?_; rotate_left
           · ((try dsimp only at hW); go_simp; first | done | rfl)
           simp only [Act.put, List.setIfInBounds_toArray, List.set_cons_zero, List.set_cons_succ])
        | (refine' wpT_reads (v := _) (by rfl) ?_ ?_; rotate_left
           · (go_simp; first | done | rfl)
           simp only [Act.put, List.setIfInBounds_toArray, List.set_cons_zero, List.set_cons_succ])
        | (refine wpT_skip (by rfl) rfl ?_; simp only [Act.put, List.setIfInBounds_toArray, List.set_cons_zero, List.set_cons_succ])
        | (refine wpT_does (by rfl) (fun K hK => ?_); go_simp; refine hK _ _ ?_ ?_
           · (trivial)
           clear hK K; try simp only [Act.put, List.setIfInBounds_toArray, List.set_cons_zero, List.set_cons_succ])
        | (refine wpT_last (by rfl) (fun K hK => ?_); go_simp; refine hK _ _ ?_; clear hK K)
        | (refine wpT_nil ?_))
      refine wpT_does (by rfl) (fun K hK => ?_)
      refine wp_append_ones _ (.tmp 44) (.tmp 46) rfl _ (Ej.eraseIdx i) rfl own _ 1 [(p.1, p.2.1, true)] rfl hsrc (by omega) ?_
      intro u Y o f k
      rw [← HVE.out] at k f
      have hsc : (Wb.alloc (.cells #[.int .i64 p.1, .bool p.2.1, .bool true] 92)).drew.heap.size = Wb.heap.size + 1 := World.size_alloc _ _
      have kz : Keep (fun k => v.ownBlock = some k) Wb Y := (kc.mono fun _ _ h => h.elim).trans k
      have st := NB.out.storedT M.out hGb GV.out V0.out kz o (fun x hx => (f x hx).elim .inl (fun h => .inr (by omega)))
      obtain ⟨h2, hf⟩ := M.out.sp V0.out kz
      rw [HVE.out] at h2
      have z1 := (k.cell (p := ⟨W5.heap.size, 0, none⟩) (World.block_lt_of_cell? _ _ y1) (fun h => Nat.lt_irrefl _ (GL _ h))).trans y1
      have z2 := (k.cell (p := ⟨W5.heap.size, 1, none⟩) (World.block_lt_of_cell? _ _ y2) (fun h => Nat.lt_irrefl _ (GL _ h))).trans y2
      have z3 := (k.cell (p := ⟨W5.heap.size, 2, none⟩) (World.block_lt_of_cell? _ _ y3) (fun h => Nat.lt_irrefl _ (GL _ h))).trans y3
      obtain ⟨G7, N7, J7, K7⟩ := st
      have N7' : MNew 58 w0 (Y.setCell ⟨b, 0, none⟩ u) G7 b (tcs (mv Ej t)) := by rw [HMV.out]; exact N7
      have N7' := hid N7'
      have J7' := hid (fun x hx => (J7 x hx).elim (J5'.out x) (fun h => .inr (by have := K5'.out.size; have := SB.out; omega)) : ∀ x, G7 x → G x ∨ w.heap.size ≤ x)
      have K7' := hid ((K5'.out.trans (KB.out.mono fun _ _ h => h.elim)).then K7 J5'.out)
      have R7 := hid (Rb.out.keep K7 fun x hx => (A5.out x hx).2)
      have A7 := hid (fun x hx => ⟨by have h1 := (A5.out x hx).1; have h2 := K7.size; have := SB.out; omega, fun h => (J7 x h).elim (A5.out x hx).2 (fun h => by have h1 := (A5.out x hx).1; have := SB.out; omega)⟩ : ∀ x, (Value.slice (some ⟨g, off, none⟩) T.length n3).ownBlock = some x → x < (Y.setCell ⟨b, 0, none⟩ u).heap.size ∧ ¬ G7 x)
      obtain ⟨au, cu, hu⟩ := o.form
      generalize (Ej.eraseIdx i ++ [(p.1, p.2.1, true)]).length = mu at hu
      subst hu
      refine hK _ _ ⟨h2, z1, z2, z3⟩ ?_
      clear hK K own hsrc y0 y1 y2 y3 o f k kz N7 J7 K7 kc GL nb hsc
      try simp only [Act.put, List.setIfInBounds_toArray, List.set_cons_zero, List.set_cons_succ]
      repeat (first
        | (refine' wpT_calm (v := _) (by rfl) (fun W hW => ?_) ?_; rotate_left
           · ((try dsimp only at hW); go_simp; first | done | rfl)
           simp only [Act.put, List.setIfInBounds_toArray, List.set_cons_zero, List.set_cons_succ])
        | (refine' wpT_reads (v := _) (by rfl) ?_ ?_; rotate_left
           · (go_simp; first | done | rfl)
           simp only [Act.put, List.setIfInBounds_toArray, List.set_cons_zero, List.set_cons_succ])
        | (refine wpT_skip (by rfl) rfl ?_; simp only [Act.put, List.setIfInBounds_toArray, List.set_cons_zero, List.set_cons_succ])
        | (refine wpT_does (by rfl) (fun K hK => ?_); go_simp; refine hK _ _ ?_ ?_
           · (trivial)
           clear hK K; try simp only [Act.put, List.setIfInBounds_toArray, List.set_cons_zero, List.set_cons_succ])
        | (refine wpT_last (by rfl) (fun K hK => ?_); go_simp; refine hK _ _ ?_; clear hK K)
        | (refine wpT_nil ?_))
      go_wp2_with fail
      go_roundw
      case rel => exact ⟨j + 1, G7, by omega, by go_num, by rw [FT.out]; exact N7'.out, J7'.out, K7'.out, R7.out, A7.out⟩
      case measure => simp [intOf]; omega
    obtain rfl : j = T.length := by omega
    have hlt' : ¬ ((T.length : Int) < (T.length : Int)) := by omega
    have N' := N.out
    rw [List.take_length] at N'
    have N2 := hid N'
    clear N' N
    go_wp2
    go_ret
    exact ⟨_, _, rfl, R.out, K0.out, G1, N2.out, J.out, fun k hk => ⟨.inr (F3.out k hk), A.out k hk⟩⟩

theorem thand_held (h : MNew 58 w0 w G b (tcs E)) (hn : E.length ≤ 1000) (hd : (tsk E true true).headD 0 ≠ 0) :
    Calls Try.prog 65 #[.pointer (some ⟨b, 0, none⟩)] w fun en w' => ∃ a m, en = .returned (.slice a 0 m) ∧ OutM 58 w0 G w w' b (tcs E) a m [] := by
  have HH := hid h
  obtain ⟨y, hy⟩ : ∃ y, (tsk E true true).headD 0 = y := ⟨_, rfl⟩
  have HD := hid hy
  rw [hy] at hd
  have hz : (y != 0) = true := by simp [hd]
  clear h hy hd
  have kA : Keep (fun _ => False) w (w.alloc (.cells #[] 3)) := (Keep.refl _ _).alloc _
  have NA := hid (HH.out.quiet kA)
  have R0 : Hid (OwnI (w.alloc (.cells #[] 3)) (.slice (some ⟨w.heap.size, 0, none⟩) 0 0) []) := hid (made_rowI w)
  have KA := hid kA
  clear kA
  go_enter Try.func65, Try.ntmps65
  go_wp2_with fail
  refine (twriter_any NA.out hn).mono ?_
  rintro _ W1 ⟨rfl, K1⟩
  rw [HD.out]
  have N1 := hid (NA.out.quiet K1)
  have KW := hid (KA.out.trans K1)
  have R1 := hid (R0.out.keep K1 fun _ _ h => h)
  clear K1
  go_wp2
  go_ret
  exact ⟨_, _, rfl, R1.out.reads, KW.out.mono fun _ _ h => h.elim, G, N1.out, fun k h => .inl h, fun k hk => by
    have e := Option.some.inj hk
    dsimp only at e
    exact ⟨.inr (by omega), own_lt R1.out hk, fun hg => by have := HH.out.1.2.1 k hg; omega⟩⟩

theorem thand_busy (h : MNew 58 w0 w G b (tcs E)) (hn : E.length ≤ 1000) (hd : (tsk E true true).headD 0 = 0) (hl : (tsk E true false).length ≠ 0) (hr : (tsk E false true).length ≠ 0) :
    Calls Try.prog 65 #[.pointer (some ⟨b, 0, none⟩)] w fun en w' => ∃ a m, en = .returned (.slice a 0 m) ∧ OutM 58 w0 G w w' b (tcs E) a m [] := by
  have HH := hid h
  have HD := hid hd
  obtain ⟨m1, hm1⟩ : ∃ y, (tsk E true false).length = y := ⟨_, rfl⟩
  obtain ⟨m2, hm2⟩ : ∃ y, (tsk E false true).length = y := ⟨_, rfl⟩
  have H1 := hid hm1
  have H2 := hid hm2
  have z1 : ((m1 : Int) == 0) = false := by simp; omega
  have z2 : ((m2 : Int) == 0) = false := by simp; omega
  clear h hd hl hr hm1 hm2
  have kA : Keep (fun _ => False) w (w.alloc (.cells #[] 3)) := (Keep.refl _ _).alloc _
  have NA := hid (HH.out.quiet kA)
  have R0 : Hid (OwnI (w.alloc (.cells #[] 3)) (.slice (some ⟨w.heap.size, 0, none⟩) 0 0) []) := hid (made_rowI w)
  have KA := hid kA
  clear kA
  go_enter Try.func65, Try.ntmps65
  go_wp2_with fail
  refine (twriter_any NA.out hn).mono ?_
  rintro _ W1 ⟨rfl, K1⟩
  rw [HD.out]
  have N1 := hid (NA.out.quiet K1)
  have KW := hid (KA.out.trans K1)
  have R1 := hid (R0.out.keep K1 fun _ _ h => h)
  clear K1
  go_wp2_with fail
  refine (ttasks_any true false N1.out hn).mono ?_
  rintro _ W2 ⟨a2, n2, rfl, -, K2, -⟩
  rw [H1.out]
  have N2 := hid (N1.out.quiet K2)
  have KW2 := hid (KW.out.trans K2)
  have R2 := hid (R1.out.keep K2 fun _ _ h => h)
  clear K2
  go_wp2_with fail
  refine (ttasks_any false true N2.out hn).mono ?_
  rintro _ W3 ⟨a3, n3, rfl, -, K3, -⟩
  rw [H2.out]
  have N3 := hid (N2.out.quiet K3)
  have KW3 := hid (KW2.out.trans K3)
  have R3 := hid (R2.out.keep K3 fun _ _ h => h)
  clear K3
  go_wp2_with fail
  go_loopw [5] (fun i wr => i = .int .i64 0 ∧ wr = W3) (fun _ _ => 0)
  case atStart => exact ⟨rfl, rfl⟩
  case round =>
    obtain ⟨rfl, rfl⟩ := hrel
    go_wp2
    go_ret
    exact ⟨_, _, rfl, R3.out.reads, KW3.out.mono fun _ _ h => h.elim, G, N3.out, fun k h => .inl h, fun k hk => by
      have e := Option.some.inj hk
      dsimp only at e
      exact ⟨.inr (by omega), own_lt R3.out hk, fun hg => by have := HH.out.1.2.1 k hg; omega⟩⟩
end
end Go.Proofs.Ytegpoocmhamlpaa
