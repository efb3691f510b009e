/- A log that is edited: plain; a record stored in a list. Law 21: AuditEdits (printed by gen_audz6.py). -/
import Derived.Test.YtpijnpapmdnceaaGap
import Derived.Test.YtpijnpapmdnceaaGal

namespace Go.Proofs.Ytpijnpapmdnceaa
open Go Go.RowKit

/-- All but the records is fine. -/
structure VOk (d : Int) (base head : List B8) : Prop where
  d0 : 0 ≤ d
  bl : base.length = 32
  hl : head.length = 32
  nz : d = 0 → base = zero32
theorem ver_ok {d : Int} {base head : List B8} (h : VOk d base head) (m : List Rc) (hm : m.length ≤ 16) (hs : seqsOk d 0 m = true) : ver d base m head = if chns base m ≠ head then 19 else 0 := by
  obtain ⟨h1, h2, h3, h4⟩ := h
  unfold ver
  rw [if_neg (by rintro (k | k | k | k) <;> omega), if_neg (fun k => k.2 (h4 k.1)), hs, if_neg (c := (true = false)) (by simp)]
theorem ver_bad {d : Int} {base head : List B8} (h : VOk d base head) (m : List Rc) (hm : m.length ≤ 16) (hs : seqsOk d 0 m = false) : ver d base m head = 19 := by
  obtain ⟨h1, h2, h3, h4⟩ := h
  unfold ver
  rw [if_neg (by rintro (k | k | k | k) <;> omega), if_neg (fun k => k.2 (h4 k.1)), hs, if_pos rfl]
theorem vok_log {L : Lg} {R : Rl} {l : List Rc} (h : Agree L R) (hh : Holds R l) (bl : L.base.length = 32) (he : L.head.length = 32) : VOk (L.drop : Int) L.base L.head :=
  ⟨by omega, bl, he, fun k => by
    have hd : goneR R = 0 := by have := h.drop; omega
    rw [h.base, hd]
    exact hh.first⟩
theorem len_log {L : Lg} {R : Rl} (h : Agree L R) : L.l.length ≤ 16 := by
  have hb : L.l.length = R.all.length - goneR R := by rw [h.list, List.length_drop]
  rw [hb]
  have := h.r16
  have := h.r1
  unfold goneR
  omega
theorem seq_at {L : Lg} {R : Rl} {l : List Rc} (h : Agree L R) (hh : Holds R l) (hl : R.all.length ≤ 1000) (i : Nat) (hi : i < L.l.length) : (L.l[i]).s = (L.drop : Int) + i ∧ L.drop ≤ 1000 := by
  rw [list_at h hh i hi, h.drop]
  have hg : goneR R ≤ R.all.length := by unfold goneR; omega
  exact ⟨rfl, by omega⟩
theorem seqOk_s (d : Int) (n : Nat) (x y : Rc) (h : x.s = y.s) : seqOk d n x = seqOk d n y := by unfold seqOk; rw [h]
/-- With another record in place of one. -/
theorem seqs_set {d : Int} {m : List Rc} (i : Nat) (hi : i < m.length) (x : Rc) (hx : x.s = (m[i]).s) (hs : seqsOk d 0 m = true) : seqsOk d 0 (m.set i x) = true := by
  refine seqs_all d _ 0 fun j hj => ?_
  have hj2 : j < m.length := by simpa using hj
  have h1 := seqs_at d m 0 j hj2 hs
  rw [List.getElem_set]
  split
  · rename_i e
    subst e
    rw [seqOk_s d _ x _ hx]
    exact h1
  · exact h1
theorem seqs_take {d : Int} {m : List Rc} (i : Nat) (hs : seqsOk d 0 m = true) : seqsOk d 0 (m.take i) = true := by
  refine seqs_all d _ 0 fun j hj => ?_
  rw [List.getElem_take]
  exact seqs_at d m 0 j (by rw [List.length_take] at hj; omega) hs
theorem seqOk_off (d : Int) (n : Nat) (x : Rc) (hd : 0 ≤ d ∧ d ≤ 2000) (hn : n ≤ 1000) (s : Int) (hx : x.s = d + s) (hs : s ≠ n) (hb : 0 ≤ s ∧ s ≤ 1000) : seqOk d n x = false := by
  unfold seqOk
  rw [hx, wrap_small _ _ ⟨by omega, by omega⟩]
  simp
  intro _
  omega
/-- One that is gone, and not the last. -/
theorem seqs_gone {L : Lg} {R : Rl} {l : List Rc} (h : Agree L R) (hh : Holds R l) (hl : R.all.length ≤ 1000) (i : Nat) (hi : i + 1 < L.l.length) : seqsOk (L.drop : Int) 0 (L.l.take i ++ L.l.drop (i + 1)) = false := by
  have hlen : (L.l.take i).length = i := by rw [List.length_take]; omega
  have h16 := len_log h
  obtain ⟨h1, h2⟩ := seq_at h hh hl (i + 1) hi
  refine seqs_not _ _ 0 i (by rw [List.length_append, hlen, List.length_drop]; omega) ?_
  have e : (L.l.take i ++ L.l.drop (i + 1))[i]'(by rw [List.length_append, hlen, List.length_drop]; omega) = L.l[i + 1] := by
    rw [List.getElem_append_right (by omega)]
    simp [hlen]
  rw [e, Nat.zero_add]
  exact seqOk_off _ i _ ⟨by omega, by omega⟩ (by omega) (i + 1 : Nat) h1 (by omega) ⟨by omega, by omega⟩
/-- Two that have changed places. -/
theorem seqs_swap {L : Lg} {R : Rl} {l : List Rc} (h : Agree L R) (hh : Holds R l) (hl : R.all.length ≤ 1000) (i k : Nat) (hi : i < L.l.length) (hk : k < L.l.length) (hik : i ≠ k) : seqsOk (L.drop : Int) 0 ((L.l.set i L.l[k]).set k L.l[i]) = false := by
  have h16 := len_log h
  obtain ⟨h1, h2⟩ := seq_at h hh hl k hk
  refine seqs_not _ _ 0 i (by simpa using hi) ?_
  have e : ((L.l.set i L.l[k]).set k L.l[i])[i]'(by simpa using hi) = L.l[k] := by
    rw [List.getElem_set, if_neg (fun e => hik e.symm), List.getElem_set, if_pos rfl]
  rw [e, Nat.zero_add]
  exact seqOk_off _ i _ ⟨by omega, by omega⟩ (by omega) k h1 (by omega) ⟨by omega, by omega⟩
theorem swap_same (m : List Rc) (i : Nat) (hi : i < m.length) : (m.set i m[i]).set i m[i] = m := by
  rw [List.set_set, List.set_getElem_self]
theorem flatR_set (l : List Rc) (i : Nat) (r : Rc) (hi : i < l.length) : flatR (l.set i r) = (flatR l).take (i * 10) ++ r.cells ++ (flatR l).drop ((i + 1) * 10) := by
  rw [List.set_eq_take_append_cons_drop, if_pos hi, flatR_append, ← flatR_take, ← flatR_drop]
  simp [flatR]
theorem wp_store_rec {w : World} {o : Oper} {a : Act} {K : Act → World → Prop} {Q : Exit → Act → World → Prop} (x y : Operand) (ho : o.op = .store 42 x y)
    (g n c i : Nat) (l : List Rc) (hown : OwnR w (.slice (some ⟨g, 0, none⟩) n c) l) (hi : i < l.length) (hx : a.eval x = .pointer (some ⟨g, i * 10, none⟩)) (r : Rc)
    (hy : a.eval y = .agg #[.int .i64 r.s, .int .i64 r.t, .int .i64 r.c, .int .i64 r.o, .int .i64 r.e, .int .i64 r.n, .int .i64 r.m, .int .i64 r.a, .int .i64 r.b, .int .i64 r.d])
    (h : ∀ w', OwnR w' (.slice (some ⟨g, 0, none⟩) n c) (l.set i r) → Keep (fun k => k = g) w w' → K (a.put o.dst undef) w') : o.wp Try.prog a w K Q := by
  obtain ⟨hlen, ⟨hh, _⟩ | ⟨g', cap, cur, hv, _, hg, hnc, hcm, hcs, htk⟩⟩ := hown
  · cases hh
  simp only [Value.slice.injEq, Option.some.injEq, Addr.mk.injEq] at hv
  obtain ⟨⟨rfl, -, -⟩, rfl, rfl⟩ := hv
  have hfit : i * 10 + 0 + r.cells.length ≤ cur.size := by rw [hcs, cells_len]; omega
  have h1 : ∀ u ∈ r.cells, u.oneCell' = true := fun u hu => flatR_one [r] u (by simpa [flatR] using hu)
  have hst := run_storeCells_at Try.prog g (i * 10) 42 r.cells 0 cur w hg hfit h1
  simp only [Nat.add_zero, cells_len] at hst
  have hvar : (storeVar 42 ⟨g, i * 10, none⟩ r.agg).run Try.prog w = .ok () (w.setRow g (cur.toList.take (i * 10) ++ r.cells ++ cur.toList.drop (i * 10 + 10)).toArray) := by
    have hs := info_size_rec
    cases hq : Try.prog.info? 42 with
    | none => rw [hq] at hs; cases hs
    | some inf =>
      rw [hq] at hs
      have hs2 : inf.size = 10 := Option.some.inj hs
      have e : r.agg.cells = r.cells.toArray := rfl
      simp [storeVar, sizeOf, typeInfo, hq, e, hs2, cells_len, hst]
  unfold Oper.wp execOp
  have hy' : a.eval y = r.agg := hy
  simp only [ho, hx, hy', Instr.storeAt, Instr.sureAddr, Sem.run_bind, Sem.run_pure, Result.andThen_ok, hvar]
  refine h _ ?_ (setRow_keep _ _ _)
  have hl2 : (l.set i r).length = l.length := List.length_set
  refine ⟨by rw [flatR_length, hl2], .inr ⟨g, c, (cur.toList.take (i * 10) ++ r.cells ++ cur.toList.drop (i * 10 + 10)).toArray, by rw [hl2], Nat.zero_le _, setRow_heap w g cur _ _ _ hg, by rw [hl2]; exact hnc, hcm, ?_, ?_⟩⟩
  · simp only [List.size_toArray, List.length_append, List.length_take, List.length_drop, cells_len, Array.length_toList, hcs]
    omega
  · rw [hl2, flatR_set l i r hi]
    have e1 : (flatR l).take (i * 10) = cur.toList.take (i * 10) := by rw [← htk, List.take_take, Nat.min_eq_left (by omega)]
    have e2 : (flatR l).drop ((i + 1) * 10) = (cur.toList.drop (i * 10 + 10)).take (l.length * 10 - (i * 10 + 10)) := by
      rw [← htk, List.drop_take, show (i + 1) * 10 = i * 10 + 10 from by omega]
    rw [e1, e2]
    have hA : (cur.toList.take (i * 10) ++ r.cells).length = i * 10 + 10 := by
      rw [List.length_append, List.length_take, cells_len, Array.length_toList, hcs]
      omega
    rw [List.toList_toArray, List.take_append, hA, List.take_of_length_le (by rw [hA]; omega)]
theorem wpList_strec {ops : Array Oper} {rest : List Oper} {w : World} {o : Oper} {a : Act} {Q : Exit → Act → World → Prop} (x y : Operand) (hgd : o.guard = none) (ho : o.op = .store 42 x y)
    (g n c i : Nat) (l : List Rc) (hx : a.eval x = .pointer (some ⟨g, i * 10, none⟩)) (r : Rc)
    (hy : a.eval y = .agg #[.int .i64 r.s, .int .i64 r.t, .int .i64 r.c, .int .i64 r.o, .int .i64 r.e, .int .i64 r.n, .int .i64 r.m, .int .i64 r.a, .int .i64 r.b, .int .i64 r.d])
    (hown : OwnR w (.slice (some ⟨g, 0, none⟩) n c) l) (hi : i < l.length)
    (h : ∀ w', OwnR w' (.slice (some ⟨g, 0, none⟩) n c) (l.set i r) → Keep (fun k => k = g) w w' → wpList Try.prog ops Q rest (a.put o.dst undef) w') : wpList Try.prog ops Q (o :: rest) a w :=
  wpList_plain hgd fun _ hK => wp_store_rec x y ho g n c i l hown hi hx r hy fun w' o1 k1 => hK _ _ (h w' o1 k1)
theorem OwnR.block {w : World} {v : Value} {l : List Rc} (h : OwnR w v l) (hl : 0 < l.length) : ∃ g c, v = .slice (some ⟨g, 0, none⟩) l.length c := by
  rcases h with ⟨_, ⟨_, h0⟩ | ⟨g, cap, cur, rfl, _⟩⟩
  · omega
  · exact ⟨g, cap, rfl⟩
theorem OwnR.at {w : World} {g n c : Nat} {l : List Rc} (h : OwnR w (.slice (some ⟨g, 0, none⟩) n c) l) (i : Nat) (hi : i < l.length) : ∀ j u, (l[i]).cells[j]? = some u → w.cell? ⟨g, i * 10 + j, none⟩ = some u := fun j u hu => by
  have := cells_at h.reads i hi _ rfl j u hu
  rwa [Nat.zero_add] at this
/-- One that is wanted or not; what its slot holds is known. -/
theorem wpT_maybe {P : Program} {ops : Array Oper} {S : World → Prop} {N : Act → World → Prop} {cs : List Nat} {l : List Oper} {o : Oper} {a : Act} {w : World} (v : Value) (hv : YieldsIf P ops S o v a)
    (h : wpT P ops S N cs l (a.put o.dst v) w) : wpT P ops S N (0 :: cs) (o :: l) a w := by
  unfold wpT stepC
  exact ⟨v, hv, h⟩
end Go.Proofs.Ytpijnpapmdnceaa

namespace Go.Proofs.Ytpijnpapmdnceaa
open Go Go.RowKit

set_option maxRecDepth 10000 in
set_option maxHeartbeats 8000000 in
theorem walk_AuditEdits (w : World) (rg : Int) (hrg : (Lit.int .u8 rg).wf = true) (v1 : Value) (l : List Rc) (h1 : ReadR w v1 l) (_z : ∀ r ∈ l, WfR r) (at' : Int) (hat : (Lit.int .u8 at').wf = true) (ot : Int) (hot : (Lit.int .u8 ot).wf = true) (x : Rc) (_zx : WfR x) :
    Calls Try.prog 10 #[.int .u8 rg, v1, .int .u8 at', .int .u8 ot, x.agg] w fun e w' => e = .returned (.bool true) ∧ Below w.heap.size w w' := by
  obtain ⟨a0, c0, hv⟩ := h1.form
  subst hv
  have ml := h1.maxl
  unfold maxLen at ml
  obtain ⟨n, hn⟩ : ∃ n, l.length = n := ⟨_, rfl⟩
  rw [hn] at h1 ml ⊢
  have HN := hid hn
  obtain ⟨rg0, rg1⟩ := byte_ok hrg
  obtain ⟨at0, at1⟩ := byte_ok hat
  obtain ⟨ot0, ot1⟩ := byte_ok hot
  obtain ⟨q, hq, q1, q2⟩ : ∃ q : Nat, 1 + rg % 16 = (q : Int) ∧ 1 ≤ q ∧ q ≤ 16 := ⟨(1 + rg % 16).toNat, by omega, by omega, by omega⟩
  obtain ⟨W0, hW0⟩ : ∃ W0, w.alloc (.cells #[.int .i64 x.s, .int .i64 x.t, .int .i64 x.c, .int .i64 x.o, .int .i64 x.e, .int .i64 x.n, .int .i64 x.m, .int .i64 x.a, .int .i64 x.b, .int .i64 x.d] 42) = W0 := ⟨_, rfl⟩
  have K0 : Keep (fun _ => False) w W0 := by rw [← hW0]; exact (Keep.refl _ _).alloc _
  have row0 : W0.heap[w.heap.size]? = some (.cells #[.int .i64 x.s, .int .i64 x.t, .int .i64 x.c, .int .i64 x.o, .int .i64 x.e, .int .i64 x.n, .int .i64 x.m, .int .i64 x.a, .int .i64 x.b, .int .i64 x.d] 42 (0, 0)) := by rw [← hW0]; exact heap_alloc_new w _
  have H := hid (h1.keep K0 (fun _ _ h => h))
  have HW0 := hid hW0
  have HK0 := hid K0
  have ROW0 := hid row0
  clear h1 hn hrg hat hot _z _zx hW0 K0 row0
  unfold Rc.agg
  go_enter Try.func10, Try.ntmps10
  go_wp2_with fail
  rw [HW0.out]
  have HQ := hid hq
  clear hq rg0 rg1
  refine (made_any W0 q _ l H.out 24 (by decide)).mono ?_
  rintro _ w1 ⟨b, c, v, va, vl, L, R, rfl, hT, hA, hH, hr, hlen⟩
  have TT := hid hT
  have AA := hid hA
  have HH := hid hH
  have HR : Hid (R.ring = (q : Int)) := hid (by rw [hr]; unfold ringOf; omega)
  rw [HN.out] at hlen
  have HLE : Hid (R.all.length ≤ 24) := hid (by rw [hlen]; omega)
  clear hT hA hH hr hlen
  go_wp2_with fail
  have lb : L.l.length ≤ 100000 := by rw [AA.out.list, List.length_drop]; have := HLE.out; omega
  refine (aview_any TT.out.la lb).mono ?_
  rintro _ w5 ⟨v5, rfl, m5, f5, k5⟩
  obtain ⟨m, hm⟩ : ∃ m, L.l.length = m := ⟨_, rfl⟩
  obtain ⟨dd, hdd⟩ : ∃ dd, (L.drop : Int) = dd := ⟨_, rfl⟩
  have hm16 : m ≤ 16 := by rw [← hm]; exact len_log AA.out
  obtain ⟨B, hB⟩ : ∃ B, bya L.base = B := ⟨_, rfl⟩
  obtain ⟨E, hE⟩ : ∃ B, bya L.head = B := ⟨_, rfl⟩
  obtain ⟨a5, hv5⟩ := m5.form
  rw [hm] at hv5
  subst hv5
  have vok := vok_log AA.out HH.out TT.out.la.bl TT.out.la.hl
  have sok := seqs_list AA.out HH.out (by have := HLE.out; omega)
  rw [hdd] at vok sok
  unfold viewV
  rw [hB, hE, hdd]
  have R5 := hid m5.reads
  have T5 := hid (TT.out.same k5)
  have HM := hid hm
  have HB := hid hB
  have HE := hid hE
  have HDD := hid hdd
  have VOK := hid vok
  have SOK := hid sok
  -- what Verify and Chain answer, of any list
  have VF : Hid (∀ (W : World) (a : Option Addr) (n c : Nat) (M : List Rc), ReadR W (.slice a n c) M → Calls Try.prog 25 #[.agg #[.int .i64 dd, .string B, .slice a n c, .string E]] W fun x w' => x = .returned (.int .i64 (ver dd L.base M L.head)) ∧ Keep (fun _ => False) W w') := hid (fun W a n c M hr => by
    have := verify_any hr dd L.base L.head
    unfold viewV at this
    rw [hB, hE] at this
    exact this)
  have CF : Hid (∀ (W : World) (a : Option Addr) (n c : Nat) (M : List Rc), M.length ≤ 1000 → ReadR W (.slice a n c) M → Calls Try.prog 30 #[.string B, .slice a n c] W fun x w' => x = .returned (.string (bya (chns L.base M))) ∧ Keep (fun _ => False) W w') := hid (fun W a n c M hM hr => by
    have := rchain_any hr hM L.base VOK.out.bl
    rw [hB] at this
    exact this)
  have EQ : Hid (∀ M : List Rc, ((bya (chns L.base M)).toList == E.toList) = decide (chns L.base M = L.head)) := hid (fun M => by rw [← hE]; exact bya_beq _ _)
  have hx5 : w.heap.size < w5.heap.size := Nat.lt_of_lt_of_le (lt_of_heap ROW0.out) (TT.out.same k5).kp.size
  have HF5 : Hid (∀ k, (Value.slice a5 m m).ownBlock = some k → w.heap.size < k) := hid (fun k hk => Nat.lt_of_lt_of_le (lt_of_heap ROW0.out) (Nat.le_trans TT.out.kp.size (f5 k hk)))
  clear m5 f5 k5 hm hdd hB hE lb vok sok
  obtain ⟨W6, hW6⟩ : ∃ W, w5.alloc (.cells #[.int .i64 dd, .string B, .slice a5 m m, .string E] 45) = W := ⟨_, rfl⟩
  have K6 : Keep (fun _ => False) w5 W6 := by rw [← hW6]; exact (Keep.refl _ _).alloc _
  have row6 : W6.heap[w5.heap.size]? = some (.cells #[.int .i64 dd, .string B, .slice a5 m m, .string E] 45 (0, 0)) := by rw [← hW6]; exact heap_alloc_new w5 _
  have x6 := (Keep.block (TT.out.kp.trans (Keep.trans (Keep.of_below (Below.refl _ _) (fun _ => False)) (Keep.refl _ _))) w.heap.size (lt_of_heap ROW0.out) (fun h => h))
  have z2 : W6.cell? ⟨w5.heap.size, 2, none⟩ = some (.slice a5 m m) := by rw [cell_of_row _ _ 2 _ _ _ row6]; rfl
  have HW6 := hid hW6
  have T6 := hid (T5.out.same K6)
  have R6 := hid (R5.out.keep K6 (fun _ _ h => h))
  have ROW6 := hid row6
  have X6 := hid ((T6.out.kp.block _ (lt_of_heap ROW0.out) (fun h => h)).trans ROW0.out)
  have KW6 := hid (HK0.out.trans T6.out.kp)
  clear hW6 K6 row6 x6 T5 R5 TT H
  by_cases hm0 : m = 0
  · subst hm0
    go_wp2_with fail
    rw [HW6.out]
    refine (aawake_any _).mono ?_
    rintro _ w8 ⟨rfl, k8⟩
    have T8 := hid (KW6.out.trans k8)
    clear k8
    go_wp2_with fail
    go_ret
    exact ⟨rfl, T8.out.below (fun _ h => h.elim) (Nat.le_refl _)⟩
  have hmz : ¬ (m : Int) = 0 := by omega
  go_wp2_with fail
  rw [HW6.out]
  obtain ⟨i, hi1, hi2⟩ : ∃ i : Nat, at' % (m : Int) = (i : Int) ∧ i < m := ⟨(at' % (m : Int)).toNat, by have := Int.emod_nonneg at' hmz; omega, by have := Int.emod_nonneg at' hmz; have := Int.emod_lt_of_pos at' (show (0 : Int) < m by omega); omega⟩
  obtain ⟨k, hk1, hk2⟩ : ∃ i : Nat, ot % (m : Int) = (i : Int) ∧ i < m := ⟨(ot % (m : Int)).toNat, by have := Int.emod_nonneg ot hmz; omega, by have := Int.emod_nonneg ot hmz; have := Int.emod_lt_of_pos ot (show (0 : Int) < m by omega); omega⟩
  have wat : IntKind.i64.wrap at' = at' := IntWalk.i64_in _ ⟨by omega, by omega⟩
  have wot : IntKind.i64.wrap ot = ot := IntWalk.i64_in _ ⟨by omega, by omega⟩
  obtain ⟨g5, o5, ha5⟩ := R6.out.addr (by rw [HM.out]; omega)
  subst ha5
  have hi3 : at'.tmod (m : Int) = (i : Int) := by rw [Int.tmod_eq_emod_of_nonneg at0]; exact hi1
  have hk3 : ot.tmod (m : Int) = (k : Int) := by rw [Int.tmod_eq_emod_of_nonneg ot0]; exact hk1
  have dz2 : W6.drew.cell? ⟨w5.heap.size, 2, none⟩ = some (.slice (some ⟨g5, o5, none⟩) m m) := z2
  refine wp_region_text [0,0,0,0,0,0,0,0,0,0,0,0,0,0] (fun W => W.cell? ⟨w5.heap.size, 2, none⟩ = some (.slice (some ⟨g5, o5, none⟩) m m)) (by kernel_rfl) (by kernel_rfl) dz2 ?_
  repeat (first
    | (refine' wpT_calm (v := _) (by rfl) (fun W hW => ?_) ?_; rotate_left
       · ((try dsimp only at hW); go_simp; first | done | rfl)
       simp only [Act.put, List.setIfInBounds_toArray, List.set_cons_zero, List.set_cons_succ])
    | (refine' wpT_reads (v := _) (by rfl) ?_ ?_; rotate_left
       · (go_simp; first | done | rfl)
       simp only [Act.put, List.setIfInBounds_toArray, List.set_cons_zero, List.set_cons_succ])
    | (refine wpT_skip (by rfl) rfl ?_; simp only [Act.put, List.setIfInBounds_toArray, List.set_cons_zero, List.set_cons_succ])
    | (refine wpT_does (by rfl) (fun K hK => ?_); go_simp; refine hK _ _ ?_ ?_
       · (trivial)
       clear hK K; try simp only [Act.put, List.setIfInBounds_toArray, List.set_cons_zero, List.set_cons_succ])
    | (refine wpT_last (by rfl) (fun K hK => ?_); go_simp; refine hK _ _ ?_; clear hK K)
    | (refine wpT_nil ?_))
  clear hi1 hi3 hk1 hk3 at0 at1 ot0 ot1 z2 dz2 wat wot
  have KW7 := hid KW6.out.drew
  have R7 := hid (R6.out.keep ((Keep.refl (fun _ => False) W6).drew) (fun _ _ h => h))
  have PV7 : Hid (W6.drew.heap[w5.heap.size]? = some (.cells #[.int .i64 dd, .string B, .slice (some ⟨g5, o5, none⟩) m m, .string E] 45 (0, 0))) := hid ROW6.out
  have X7 : Hid (W6.drew.heap[w.heap.size]? = some (.cells #[.int .i64 x.s, .int .i64 x.t, .int .i64 x.c, .int .i64 x.o, .int .i64 x.e, .int .i64 x.n, .int .i64 x.m, .int .i64 x.a, .int .i64 x.b, .int .i64 x.d] 42 (0, 0))) := hid X6.out
  obtain ⟨W7, hW7⟩ : ∃ W, W6.drew = W := ⟨_, rfl⟩
  rw [hW7] at KW7 R7 PV7 X7 ⊢
  clear hW7 ROW6 X6 KW6 R6 T6 HW6 HW0 ROW0
  have p0 : W7.cell? ⟨w5.heap.size, 0, none⟩ = some (.int .i64 dd) := by rw [cell_of_row _ _ 0 _ _ _ PV7.out]; rfl
  have p1 : W7.cell? ⟨w5.heap.size, 1, none⟩ = some (.string B) := by rw [cell_of_row _ _ 1 _ _ _ PV7.out]; rfl
  have p2 : W7.cell? ⟨w5.heap.size, 2, none⟩ = some (.slice (some ⟨g5, o5, none⟩) m m) := by rw [cell_of_row _ _ 2 _ _ _ PV7.out]; rfl
  have p3 : W7.cell? ⟨w5.heap.size, 3, none⟩ = some (.string E) := by rw [cell_of_row _ _ 3 _ _ _ PV7.out]; rfl
  have lt5 : w5.heap.size < W7.heap.size := lt_of_heap PV7.out
  have ltx : w.heap.size < W7.heap.size := lt_of_heap X7.out
  have KA : Keep (fun _ => False) W7 ((W7.alloc (.cells #[.int .i64 dd, .string B, .slice (some ⟨g5, o5, none⟩) m m, .string E] 45)).alloc (.cells #[] 42)) := ((Keep.refl _ _).alloc _).alloc _
  have pa2 := (KA.cell (p := ⟨w5.heap.size, 2, none⟩) lt5 (fun h => h)).trans p2
  have SA : ((W7.alloc (.cells #[.int .i64 dd, .string B, .slice (some ⟨g5, o5, none⟩) m m, .string E] 45)).alloc (.cells #[] 42)).heap.size = W7.heap.size + 2 := by rw [World.size_alloc, World.size_alloc]
  have SB : (W7.alloc (.cells #[.int .i64 dd, .string B, .slice (some ⟨g5, o5, none⟩) m m, .string E] 45)).heap.size = W7.heap.size + 1 := World.size_alloc _ _
  have rowPE : ((W7.alloc (.cells #[.int .i64 dd, .string B, .slice (some ⟨g5, o5, none⟩) m m, .string E] 45)).alloc (.cells #[] 42)).heap[W7.heap.size]? = some (.cells #[.int .i64 dd, .string B, .slice (some ⟨g5, o5, none⟩) m m, .string E] 45 (0, 0)) := by
    rw [heap_alloc_old _ _ (by rw [World.size_alloc]; exact Nat.lt_succ_self _)]
    exact heap_alloc_new W7 _
  have HS := hid ((R7.out.keep KA (fun _ _ h => h)).src)
  have HSA := hid SA
  have HKA := hid KA
  have HSB := hid SB
  have HPE := hid rowPE
  have mr := made_rowR (W7.alloc (.cells #[.int .i64 dd, .string B, .slice (some ⟨g5, o5, none⟩) m m, .string E] 45))
  rw [SB] at mr
  have MR := hid mr
  clear mr
  clear KA SA SB rowPE
  go_wp2_with (at_builtin; refine wpList_plain rfl (fun K hK => wp_append_recs _ (.tmp 49) (.tmp 51) rfl _ [] rfl MR.out _ L.l.length L.l rfl HS.out (by rw [HM.out]; show 0 + m ≤ 1000000; omega) ?_))
  intro v9 w9 o9 f9 k9
  have hg5 : w.heap.size < g5 := HF5.out g5 rfl
  have o9 : OwnR w9 v9 L.l := o9
  obtain ⟨ge, ce, hv9⟩ := o9.block (by rw [HM.out]; omega)
  rw [HM.out] at hv9
  subst hv9
  have o9 : OwnR w9 (.slice (some ⟨ge, 0, none⟩) m ce) L.l := o9
  have hge : W7.heap.size + 1 ≤ ge := (f9 ge rfl).elim (fun e => Nat.le_of_eq (Option.some.inj e)) (fun e => by omega)
  have k9b : Keep (fun _ => False) W7 w9 := HKA.out.then k9 (fun k hk => .inr (by have : W7.heap.size + 1 = k := Option.some.inj hk; omega))
  have rowE := (k9.block _ (by rw [HSA.out]; omega) (fun e => by have : W7.heap.size + 1 = W7.heap.size := Option.some.inj e; omega)).trans HPE.out
  obtain ⟨pe, hpe⟩ : ∃ pe, W7.heap.size = pe := ⟨_, rfl⟩
  rw [hpe] at hge rowE lt5 ltx ⊢
  have HP := hid hpe
  have e2 : w9.cell? ⟨pe, 2, none⟩ = some (.slice (some ⟨g5, o5, none⟩) m m) := by rw [cell_of_row _ _ 2 _ _ _ rowE]; rfl
  have fe2 : w9.frozen? ⟨pe, 2, none⟩ = false := frozen_of_row _ _ 2 _ _ rowE
  obtain ⟨si, hsi⟩ : ∃ si, (L.l[i]'(by rw [HM.out]; exact hi2)).s = si := ⟨_, rfl⟩
  have rX := (k9b.block _ (lt_of_heap X7.out) (fun h => h)).trans X7.out
  have K10 : Keep (fun k => k = pe) w9 (w9.setCell ⟨pe, 2, none⟩ (.slice (some ⟨ge, 0, none⟩) m ce)) := (Keep.refl _ _).setOwn _
  have o10 := o9.keep K10 (fun k hk e => by have : ge = k := Option.some.inj hk; omega)
  have t0 := o10.at i (by rw [HM.out]; exact hi2) 0 (.int .i64 si) (by rw [← hsi]; rfl)
  rw [Nat.add_zero] at t0
  have rX10 := (K10.block _ (lt_of_heap rX) (fun e => by omega)).trans rX
  have fx : (w9.setCell ⟨pe, 2, none⟩ (.slice (some ⟨ge, 0, none⟩) m ce)).frozen? ⟨w.heap.size, 0, none⟩ = false := frozen_of_row _ _ 0 _ _ rX10
  have xq0 : (w9.setCell ⟨pe, 2, none⟩ (.slice (some ⟨ge, 0, none⟩) m ce)).cell? ⟨w.heap.size, 0, none⟩ = some (.int .i64 x.s) := by rw [cell_of_row _ _ 0 _ _ _ rX10]; rfl
  have K11 : Keep (fun k => k = w.heap.size) (w9.setCell ⟨pe, 2, none⟩ (.slice (some ⟨ge, 0, none⟩) m ce)) ((w9.setCell ⟨pe, 2, none⟩ (.slice (some ⟨ge, 0, none⟩) m ce)).setCell ⟨w.heap.size, 0, none⟩ (.int .i64 si)) := (Keep.refl _ _).setOwn _
  have o11 := o10.keep K11 (fun k hk e => by have : ge = k := Option.some.inj hk; omega)
  have rX11 := heap_setCell_same _ _ 0 _ _ (.int .i64 si) rX10
  have rE10 := heap_setCell_same _ _ 2 _ _ (.slice (some ⟨ge, 0, none⟩) m ce) rowE
  have rE11 := (K11.block _ (lt_of_heap rE10) (fun e => by omega)).trans rE10
  have e11 : ((w9.setCell ⟨pe, 2, none⟩ (.slice (some ⟨ge, 0, none⟩) m ce)).setCell ⟨w.heap.size, 0, none⟩ (.int .i64 si)).cell? ⟨pe, 2, none⟩ = some (.slice (some ⟨ge, 0, none⟩) m ce) := by rw [cell_of_row _ _ 2 _ _ _ rE11]; rfl
  have xs0 : ((w9.setCell ⟨pe, 2, none⟩ (.slice (some ⟨ge, 0, none⟩) m ce)).setCell ⟨w.heap.size, 0, none⟩ (.int .i64 si)).cell? ⟨w.heap.size, 0, none⟩ = some (.int .i64 si) := by rw [cell_of_row _ _ 0 _ _ _ rX11]; rfl
  have xs1 : ((w9.setCell ⟨pe, 2, none⟩ (.slice (some ⟨ge, 0, none⟩) m ce)).setCell ⟨w.heap.size, 0, none⟩ (.int .i64 si)).cell? ⟨w.heap.size, 1, none⟩ = some (.int .i64 x.t) := by rw [cell_of_row _ _ 1 _ _ _ rX11]; rfl
  have xs2 : ((w9.setCell ⟨pe, 2, none⟩ (.slice (some ⟨ge, 0, none⟩) m ce)).setCell ⟨w.heap.size, 0, none⟩ (.int .i64 si)).cell? ⟨w.heap.size, 2, none⟩ = some (.int .i64 x.c) := by rw [cell_of_row _ _ 2 _ _ _ rX11]; rfl
  have xs3 : ((w9.setCell ⟨pe, 2, none⟩ (.slice (some ⟨ge, 0, none⟩) m ce)).setCell ⟨w.heap.size, 0, none⟩ (.int .i64 si)).cell? ⟨w.heap.size, 3, none⟩ = some (.int .i64 x.o) := by rw [cell_of_row _ _ 3 _ _ _ rX11]; rfl
  have xs4 : ((w9.setCell ⟨pe, 2, none⟩ (.slice (some ⟨ge, 0, none⟩) m ce)).setCell ⟨w.heap.size, 0, none⟩ (.int .i64 si)).cell? ⟨w.heap.size, 4, none⟩ = some (.int .i64 x.e) := by rw [cell_of_row _ _ 4 _ _ _ rX11]; rfl
  have xs5 : ((w9.setCell ⟨pe, 2, none⟩ (.slice (some ⟨ge, 0, none⟩) m ce)).setCell ⟨w.heap.size, 0, none⟩ (.int .i64 si)).cell? ⟨w.heap.size, 5, none⟩ = some (.int .i64 x.n) := by rw [cell_of_row _ _ 5 _ _ _ rX11]; rfl
  have xs6 : ((w9.setCell ⟨pe, 2, none⟩ (.slice (some ⟨ge, 0, none⟩) m ce)).setCell ⟨w.heap.size, 0, none⟩ (.int .i64 si)).cell? ⟨w.heap.size, 6, none⟩ = some (.int .i64 x.m) := by rw [cell_of_row _ _ 6 _ _ _ rX11]; rfl
  have xs7 : ((w9.setCell ⟨pe, 2, none⟩ (.slice (some ⟨ge, 0, none⟩) m ce)).setCell ⟨w.heap.size, 0, none⟩ (.int .i64 si)).cell? ⟨w.heap.size, 7, none⟩ = some (.int .i64 x.a) := by rw [cell_of_row _ _ 7 _ _ _ rX11]; rfl
  have xs8 : ((w9.setCell ⟨pe, 2, none⟩ (.slice (some ⟨ge, 0, none⟩) m ce)).setCell ⟨w.heap.size, 0, none⟩ (.int .i64 si)).cell? ⟨w.heap.size, 8, none⟩ = some (.int .i64 x.b) := by rw [cell_of_row _ _ 8 _ _ _ rX11]; rfl
  have xs9 : ((w9.setCell ⟨pe, 2, none⟩ (.slice (some ⟨ge, 0, none⟩) m ce)).setCell ⟨w.heap.size, 0, none⟩ (.int .i64 si)).cell? ⟨w.heap.size, 9, none⟩ = some (.int .i64 x.d) := by rw [cell_of_row _ _ 9 _ _ _ rX11]; rfl
  have K11b : Keep (fun k => k = w.heap.size) W7 ((w9.setCell ⟨pe, 2, none⟩ (.slice (some ⟨ge, 0, none⟩) m ce)).setCell ⟨w.heap.size, 0, none⟩ (.int .i64 si)) := ((k9b.mono (G := fun k => k = w.heap.size) fun _ _ h => h.elim).setCell (p := ⟨pe, 2, none⟩) (.inr (by rw [hpe]; exact Nat.le_refl _)) _).setCell (p := ⟨w.heap.size, 0, none⟩) (.inl rfl) _
  have HK11 := hid K11b
  have HO11 := hid o11
  have HE11 := hid rE11
  have HX11 := hid rX11
  have HSI := hid hsi
  have hie : (i : Int) < (m : Int) := by omega
  have hil : i < L.l.length := by rw [HM.out]; exact hi2
  refine hK _ _ ?_
  clear hK K o9 f9 k9 k9b rowE rX K10 o10 rX10 K11 o11 rX11 rE10 rE11 K11b hsi hpe
  go_wp2_with (with_reducible refine wpList_strec (.tmp 65) (.tmp 64) rfl rfl ge m ce i L.l rfl (withS x si) rfl HO11.out hil ?_)
  intro w12 o12 k12
  have KX : Keep (fun k => k = w.heap.size) W7 w12 := HK11.out.then k12 (fun k hk => .inr (by rw [HP.out]; omega))
  have rX12 := (k12.block _ (lt_of_heap HX11.out) (fun e => by omega)).trans HX11.out
  have rE12 := (k12.block _ (lt_of_heap HE11.out) (fun e => by omega)).trans HE11.out
  have rV12 := (KX.block _ (by rw [HP.out]; exact lt5) (fun e => by omega)).trans PV7.out
  have KW12 := hid (KW7.out.then KX (fun k hk => .inr (by rw [hk]; exact Nat.le_refl _)))
  have R12 := hid (R7.out.keep KX (fun k hk e => by have : g5 = k := Option.some.inj hk; omega))
  have hei : w12.heap.size ≥ W7.heap.size := KX.size
  have HX12 := hid rX12
  have HE12 := hid rE12
  have HV12 := hid rV12
  have HO12 := hid o12
  clear KX rX12 rE12 rV12 o12 k12 HK11 HO11 HE11 HX11 e2 fe2 t0 fx xq0 e11 hei p0 p1 p2 p3 pa2 HS HSA HKA HSB HPE MR PV7 X7 R7 KW7 xs0 xs1 xs2 xs3 xs4 xs5 xs6 xs7 xs8 xs9
  have KW13 := hid KW12.out.drew
  have R13 := hid (R12.out.keep ((Keep.refl (fun _ => False) w12).drew) (fun _ _ h => h))
  have HO13 := hid (HO12.out.keep ((Keep.refl (fun _ => False) w12).drew) (fun _ _ h => h))
  have HX13 : Hid (w12.drew.heap[w.heap.size]? = some (.cells #[.int .i64 si, .int .i64 x.t, .int .i64 x.c, .int .i64 x.o, .int .i64 x.e, .int .i64 x.n, .int .i64 x.m, .int .i64 x.a, .int .i64 x.b, .int .i64 x.d] 42 (0, 0))) := hid HX12.out
  have HE13 : Hid (w12.drew.heap[pe]? = some (.cells #[.int .i64 dd, .string B, .slice (some ⟨ge, 0, none⟩) m ce, .string E] 45 (0, 0))) := hid HE12.out
  have HV13 : Hid (w12.drew.heap[w5.heap.size]? = some (.cells #[.int .i64 dd, .string B, .slice (some ⟨g5, o5, none⟩) m m, .string E] 45 (0, 0))) := hid HV12.out
  have v1c : w12.drew.cell? ⟨w5.heap.size, 1, none⟩ = some (.string B) := by rw [cell_of_row _ _ 1 _ _ _ HV13.out]; rfl
  have v3c : w12.drew.cell? ⟨w5.heap.size, 3, none⟩ = some (.string E) := by rw [cell_of_row _ _ 3 _ _ _ HV13.out]; rfl
  have e2c : w12.drew.cell? ⟨pe, 2, none⟩ = some (.slice (some ⟨ge, 0, none⟩) m ce) := by rw [cell_of_row _ _ 2 _ _ _ HE13.out]; rfl
  clear HX12 HE12 HV12 HO12 R12 KW12
  go_wp2_with fail
  refine wp_region_text [0,0,0,0,2,0,0,0,0] (fun W => W.cell? ⟨w5.heap.size, 1, none⟩ = some (.string B) ∧ W.cell? ⟨w5.heap.size, 3, none⟩ = some (.string E) ∧ W.cell? ⟨pe, 2, none⟩ = some (.slice (some ⟨ge, 0, none⟩) m ce)) (by kernel_rfl) (by kernel_rfl) ⟨v1c, v3c, e2c⟩ ?_
  obtain ⟨W13, hW13⟩ : ∃ W, w12.drew = W := ⟨_, rfl⟩
  rw [hW13] at KW13 R13 HO13 HX13 HE13 HV13 v1c v3c e2c ⊢
  clear hW13
  repeat (first
    | (refine' wpT_calm (v := _) (by rfl) (fun W hW => ?_) ?_; rotate_left
       · ((try dsimp only at hW); go_simp; first | done | rfl)
       simp only [Act.put, List.setIfInBounds_toArray, List.set_cons_zero, List.set_cons_succ])
    | (refine' wpT_reads (v := _) (by rfl) ?_ ?_; rotate_left
       · (go_simp; first | done | rfl)
       simp only [Act.put, List.setIfInBounds_toArray, List.set_cons_zero, List.set_cons_succ])
    | (refine wpT_skip (by rfl) rfl ?_; simp only [Act.put, List.setIfInBounds_toArray, List.set_cons_zero, List.set_cons_succ])
    | (refine wpT_does (by rfl) (fun K hK => ?_); go_simp; refine hK _ _ ?_ ?_
       · (trivial)
       clear hK K; try simp only [Act.put, List.setIfInBounds_toArray, List.set_cons_zero, List.set_cons_succ])
    | (refine wpT_last (by rfl) (fun K hK => ?_); go_simp; refine hK _ _ ?_; clear hK K)
    | (refine wpT_nil ?_))
  obtain ⟨M, hM⟩ : ∃ M, L.l.set i (withS x si) = M := ⟨_, rfl⟩
  have HMM := hid hM
  have hMl : M.length = m := by rw [← hM, List.length_set, HM.out]
  rw [hM] at HO13
  have HML := hid hMl
  obtain ⟨S1, hS1⟩ : ∃ S1, bya (chns L.base M) = S1 := ⟨_, rfl⟩
  obtain ⟨sb, hsb⟩ : ∃ sb, decide (chns L.base M = L.head) = sb := ⟨_, rfl⟩
  have EQM := EQ.out M
  rw [hS1, hsb] at EQM
  have HSB2 := hid hsb
  have CM := hid (CF.out W13 _ _ _ M (by omega) HO13.out.reads)
  rw [hS1] at CM
  clear hS1 hsb hM hMl
  refine wpT_does (by rfl) (fun K hK => ?_)
  go_simp
  refine CM.out.mono ?_
  rintro _ w14 ⟨rfl, k14⟩
  have v1d := (k14.cell (p := ⟨w5.heap.size, 1, none⟩) (World.block_lt_of_cell? _ _ v1c) (fun h => h)).trans v1c
  have v3d := (k14.cell (p := ⟨w5.heap.size, 3, none⟩) (World.block_lt_of_cell? _ _ v3c) (fun h => h)).trans v3c
  have e2d := (k14.cell (p := ⟨pe, 2, none⟩) (World.block_lt_of_cell? _ _ e2c) (fun h => h)).trans e2c
  have KW14 := hid (KW13.out.trans k14)
  have R14 := hid (R13.out.keep k14 (fun _ _ h => h))
  have HO14 := hid (HO13.out.keep k14 (fun _ _ h => h))
  have HX14 := hid ((k14.block _ (lt_of_heap HX13.out) (fun h => h)).trans HX13.out)
  have HE14 := hid ((k14.block _ (lt_of_heap HE13.out) (fun h => h)).trans HE13.out)
  have HV14 := hid ((k14.block _ (lt_of_heap HV13.out) (fun h => h)).trans HV13.out)
  refine hK _ _ ⟨v1d, v3d, e2d⟩ ?_
  clear hK K k14 v1c v3c e2c KW13 R13 HO13 HX13 HE13 HV13 CM
  try simp only [Act.put, List.setIfInBounds_toArray, List.set_cons_zero, List.set_cons_succ]
  repeat (first
    | (refine' wpT_calm (v := _) (by rfl) (fun W hW => ?_) ?_; rotate_left
       · ((try dsimp only at hW); go_simp; first | done | rfl)
       simp only [Act.put, List.setIfInBounds_toArray, List.set_cons_zero, List.set_cons_succ])
    | (refine' wpT_reads (v := _) (by rfl) ?_ ?_; rotate_left
       · (go_simp; first | done | rfl)
       simp only [Act.put, List.setIfInBounds_toArray, List.set_cons_zero, List.set_cons_succ])
    | (refine wpT_skip (by rfl) rfl ?_; simp only [Act.put, List.setIfInBounds_toArray, List.set_cons_zero, List.set_cons_succ])
    | (refine wpT_does (by rfl) (fun K hK => ?_); go_simp; refine hK _ _ ?_ ?_
       · (trivial)
       clear hK K; try simp only [Act.put, List.setIfInBounds_toArray, List.set_cons_zero, List.set_cons_succ])
    | (refine wpT_last (by rfl) (fun K hK => ?_); go_simp; refine hK _ _ ?_; clear hK K)
    | (refine wpT_nil ?_))
  clear v1d v3d e2d EQM
  -- Verify of the edited one
  obtain ⟨y, hy⟩ : ∃ y, L.l[i]'hil = y := ⟨_, rfl⟩
  have hys : y.s = si := by rw [← hy]; exact HSI.out
  obtain ⟨rb, hrb⟩ : ∃ rb, decide (y = withS x si) = rb := ⟨_, rfl⟩
  have RE := rec_eql y (withS x si)
  rw [hrb] at RE
  unfold Rc.agg withS at RE
  have hrs : (rb && !sb) = false := by
    cases hb : rb with
    | false => rfl
    | true =>
      rw [hb] at hrb
      have e1 : y = withS x si := of_decide_eq_true hrb
      have e2 : M = L.l := by rw [← HMM.out, ← e1, ← hy, List.set_getElem_self]
      have e3 : chns L.base M = L.head := by rw [e2]; exact chain_all AA.out
      have e4 := HSB2.out
      rw [decide_eq_true e3] at e4
      rw [← e4]
      rfl
  obtain ⟨vr, hvr⟩ : ∃ vr, ver dd L.base M L.head = vr := ⟨_, rfl⟩
  have hvb : (vr == 0) = sb := by
    have hs : seqsOk dd 0 M = true := by rw [← HMM.out]; exact seqs_set i hil _ (by rw [hy]; exact hys.symm) SOK.out
    rw [← hvr, ver_ok VOK.out M (by rw [HML.out]; exact hm16) hs]
    have e4 := HSB2.out
    by_cases hc : chns L.base M = L.head
    · rw [if_neg (fun k => k hc), ← e4, decide_eq_true hc]; rfl
    · rw [if_pos hc, ← e4, decide_eq_false hc]; rfl
  have HRS := hid hrs
  have HVR := hid hvr
  have HY := hid hy
  clear hrs hvr hrb hys
  have KW15 := hid KW14.out.drew
  have R15 := hid (R14.out.keep ((Keep.refl (fun _ => False) w14).drew) (fun _ _ h => h))
  have HO15 := hid (HO14.out.keep ((Keep.refl (fun _ => False) w14).drew) (fun _ _ h => h))
  have HX15 : Hid (w14.drew.heap[w.heap.size]? = some (.cells #[.int .i64 si, .int .i64 x.t, .int .i64 x.c, .int .i64 x.o, .int .i64 x.e, .int .i64 x.n, .int .i64 x.m, .int .i64 x.a, .int .i64 x.b, .int .i64 x.d] 42 (0, 0))) := hid HX14.out
  have HE15 : Hid (w14.drew.heap[pe]? = some (.cells #[.int .i64 dd, .string B, .slice (some ⟨ge, 0, none⟩) m ce, .string E] 45 (0, 0))) := hid HE14.out
  have HV15 : Hid (w14.drew.heap[w5.heap.size]? = some (.cells #[.int .i64 dd, .string B, .slice (some ⟨g5, o5, none⟩) m m, .string E] 45 (0, 0))) := hid HV14.out
  clear KW14 R14 HO14 HX14 HE14 HV14
  obtain ⟨W15, hW15⟩ : ∃ W, w14.drew = W := ⟨_, rfl⟩
  rw [hW15] at KW15 R15 HO15 HX15 HE15 HV15
  have e0c : W15.cell? ⟨pe, 0, none⟩ = some (.int .i64 dd) := by rw [cell_of_row _ _ 0 _ _ _ HE15.out]; rfl
  have e1c : W15.cell? ⟨pe, 1, none⟩ = some (.string B) := by rw [cell_of_row _ _ 1 _ _ _ HE15.out]; rfl
  have e2c : W15.cell? ⟨pe, 2, none⟩ = some (.slice (some ⟨ge, 0, none⟩) m ce) := by rw [cell_of_row _ _ 2 _ _ _ HE15.out]; rfl
  have e3c : W15.cell? ⟨pe, 3, none⟩ = some (.string E) := by rw [cell_of_row _ _ 3 _ _ _ HE15.out]; rfl
  have v2c : W15.cell? ⟨w5.heap.size, 2, none⟩ = some (.slice (some ⟨g5, o5, none⟩) m m) := by rw [cell_of_row _ _ 2 _ _ _ HV15.out]; rfl
  have xc0 : W15.cell? ⟨w.heap.size, 0, none⟩ = some (.int .i64 si) := by rw [cell_of_row _ _ 0 _ _ _ HX15.out]; rfl
  have xc1 : W15.cell? ⟨w.heap.size, 1, none⟩ = some (.int .i64 x.t) := by rw [cell_of_row _ _ 1 _ _ _ HX15.out]; rfl
  have xc2 : W15.cell? ⟨w.heap.size, 2, none⟩ = some (.int .i64 x.c) := by rw [cell_of_row _ _ 2 _ _ _ HX15.out]; rfl
  have xc3 : W15.cell? ⟨w.heap.size, 3, none⟩ = some (.int .i64 x.o) := by rw [cell_of_row _ _ 3 _ _ _ HX15.out]; rfl
  have xc4 : W15.cell? ⟨w.heap.size, 4, none⟩ = some (.int .i64 x.e) := by rw [cell_of_row _ _ 4 _ _ _ HX15.out]; rfl
  have xc5 : W15.cell? ⟨w.heap.size, 5, none⟩ = some (.int .i64 x.n) := by rw [cell_of_row _ _ 5 _ _ _ HX15.out]; rfl
  have xc6 : W15.cell? ⟨w.heap.size, 6, none⟩ = some (.int .i64 x.m) := by rw [cell_of_row _ _ 6 _ _ _ HX15.out]; rfl
  have xc7 : W15.cell? ⟨w.heap.size, 7, none⟩ = some (.int .i64 x.a) := by rw [cell_of_row _ _ 7 _ _ _ HX15.out]; rfl
  have xc8 : W15.cell? ⟨w.heap.size, 8, none⟩ = some (.int .i64 x.b) := by rw [cell_of_row _ _ 8 _ _ _ HX15.out]; rfl
  have xc9 : W15.cell? ⟨w.heap.size, 9, none⟩ = some (.int .i64 x.d) := by rw [cell_of_row _ _ 9 _ _ _ HX15.out]; rfl
  have cy := cells_at R15.out i hil y hy
  have yc0 := cy 0 (.int .i64 y.s) rfl
  have yc1 := cy 1 (.int .i64 y.t) rfl
  have yc2 := cy 2 (.int .i64 y.c) rfl
  have yc3 := cy 3 (.int .i64 y.o) rfl
  have yc4 := cy 4 (.int .i64 y.e) rfl
  have yc5 := cy 5 (.int .i64 y.n) rfl
  have yc6 := cy 6 (.int .i64 y.m) rfl
  have yc7 := cy 7 (.int .i64 y.a) rfl
  have yc8 := cy 8 (.int .i64 y.b) rfl
  have yc9 := cy 9 (.int .i64 y.d) rfl
  rw [Nat.add_zero] at yc0
  clear cy hy
  go_wp2_with fail
  refine wp_region_text [0,2,0,0,0,0,0,0,0,0,0,0,0,0,0,0,0,0] (fun W => W.cell? ⟨pe, 0, none⟩ = some (.int .i64 dd) ∧ W.cell? ⟨pe, 1, none⟩ = some (.string B) ∧ W.cell? ⟨pe, 2, none⟩ = some (.slice (some ⟨ge, 0, none⟩) m ce) ∧ W.cell? ⟨pe, 3, none⟩ = some (.string E) ∧ W.cell? ⟨w5.heap.size, 2, none⟩ = some (.slice (some ⟨g5, o5, none⟩) m m) ∧ W.cell? ⟨w.heap.size, 0, none⟩ = some (.int .i64 si) ∧ W.cell? ⟨w.heap.size, 1, none⟩ = some (.int .i64 x.t) ∧ W.cell? ⟨w.heap.size, 2, none⟩ = some (.int .i64 x.c) ∧ W.cell? ⟨w.heap.size, 3, none⟩ = some (.int .i64 x.o) ∧ W.cell? ⟨w.heap.size, 4, none⟩ = some (.int .i64 x.e) ∧ W.cell? ⟨w.heap.size, 5, none⟩ = some (.int .i64 x.n) ∧ W.cell? ⟨w.heap.size, 6, none⟩ = some (.int .i64 x.m) ∧ W.cell? ⟨w.heap.size, 7, none⟩ = some (.int .i64 x.a) ∧ W.cell? ⟨w.heap.size, 8, none⟩ = some (.int .i64 x.b) ∧ W.cell? ⟨w.heap.size, 9, none⟩ = some (.int .i64 x.d) ∧ W.cell? ⟨g5, o5 + i * 10, none⟩ = some (.int .i64 y.s) ∧ W.cell? ⟨g5, o5 + i * 10 + 1, none⟩ = some (.int .i64 y.t) ∧ W.cell? ⟨g5, o5 + i * 10 + 2, none⟩ = some (.int .i64 y.c) ∧ W.cell? ⟨g5, o5 + i * 10 + 3, none⟩ = some (.int .i64 y.o) ∧ W.cell? ⟨g5, o5 + i * 10 + 4, none⟩ = some (.int .i64 y.e) ∧ W.cell? ⟨g5, o5 + i * 10 + 5, none⟩ = some (.int .i64 y.n) ∧ W.cell? ⟨g5, o5 + i * 10 + 6, none⟩ = some (.int .i64 y.m) ∧ W.cell? ⟨g5, o5 + i * 10 + 7, none⟩ = some (.int .i64 y.a) ∧ W.cell? ⟨g5, o5 + i * 10 + 8, none⟩ = some (.int .i64 y.b) ∧ W.cell? ⟨g5, o5 + i * 10 + 9, none⟩ = some (.int .i64 y.d)) (by kernel_rfl) (by kernel_rfl) (by rw [hW15]; exact ⟨e0c, e1c, e2c, e3c, v2c, xc0, xc1, xc2, xc3, xc4, xc5, xc6, xc7, xc8, xc9, yc0, yc1, yc2, yc3, yc4, yc5, yc6, yc7, yc8, yc9⟩) ?_
  rw [hW15]
  clear hW15
  repeat (first
    | (refine' wpT_calm (v := _) (by rfl) (fun W hW => ?_) ?_; rotate_left
       · ((try dsimp only at hW); go_simp; first | done | rfl)
       simp only [Act.put, List.setIfInBounds_toArray, List.set_cons_zero, List.set_cons_succ])
    | (refine' wpT_reads (v := _) (by rfl) ?_ ?_; rotate_left
       · (go_simp; first | done | rfl)
       simp only [Act.put, List.setIfInBounds_toArray, List.set_cons_zero, List.set_cons_succ])
    | (refine wpT_skip (by rfl) rfl ?_; simp only [Act.put, List.setIfInBounds_toArray, List.set_cons_zero, List.set_cons_succ])
    | (refine wpT_does (by rfl) (fun K hK => ?_); go_simp; refine hK _ _ ?_ ?_
       · (trivial)
       clear hK K; try simp only [Act.put, List.setIfInBounds_toArray, List.set_cons_zero, List.set_cons_succ])
    | (refine wpT_last (by rfl) (fun K hK => ?_); go_simp; refine hK _ _ ?_; clear hK K)
    | (refine wpT_nil ?_))
  have VM := hid (VF.out W15 _ _ _ M HO15.out.reads)
  rw [HVR.out] at VM
  refine wpT_does (by rfl) (fun K hK => ?_)
  go_simp
  refine VM.out.mono ?_
  rintro _ w16 ⟨rfl, k16⟩
  have ke0c := (k16.cell (p := ⟨pe, 0, none⟩) (World.block_lt_of_cell? _ _ e0c) (fun h => h)).trans e0c
  have ke1c := (k16.cell (p := ⟨pe, 1, none⟩) (World.block_lt_of_cell? _ _ e1c) (fun h => h)).trans e1c
  have ke2c := (k16.cell (p := ⟨pe, 2, none⟩) (World.block_lt_of_cell? _ _ e2c) (fun h => h)).trans e2c
  have ke3c := (k16.cell (p := ⟨pe, 3, none⟩) (World.block_lt_of_cell? _ _ e3c) (fun h => h)).trans e3c
  have kv2c := (k16.cell (p := ⟨w5.heap.size, 2, none⟩) (World.block_lt_of_cell? _ _ v2c) (fun h => h)).trans v2c
  have kxc0 := (k16.cell (p := ⟨w.heap.size, 0, none⟩) (World.block_lt_of_cell? _ _ xc0) (fun h => h)).trans xc0
  have kxc1 := (k16.cell (p := ⟨w.heap.size, 1, none⟩) (World.block_lt_of_cell? _ _ xc1) (fun h => h)).trans xc1
  have kxc2 := (k16.cell (p := ⟨w.heap.size, 2, none⟩) (World.block_lt_of_cell? _ _ xc2) (fun h => h)).trans xc2
  have kxc3 := (k16.cell (p := ⟨w.heap.size, 3, none⟩) (World.block_lt_of_cell? _ _ xc3) (fun h => h)).trans xc3
  have kxc4 := (k16.cell (p := ⟨w.heap.size, 4, none⟩) (World.block_lt_of_cell? _ _ xc4) (fun h => h)).trans xc4
  have kxc5 := (k16.cell (p := ⟨w.heap.size, 5, none⟩) (World.block_lt_of_cell? _ _ xc5) (fun h => h)).trans xc5
  have kxc6 := (k16.cell (p := ⟨w.heap.size, 6, none⟩) (World.block_lt_of_cell? _ _ xc6) (fun h => h)).trans xc6
  have kxc7 := (k16.cell (p := ⟨w.heap.size, 7, none⟩) (World.block_lt_of_cell? _ _ xc7) (fun h => h)).trans xc7
  have kxc8 := (k16.cell (p := ⟨w.heap.size, 8, none⟩) (World.block_lt_of_cell? _ _ xc8) (fun h => h)).trans xc8
  have kxc9 := (k16.cell (p := ⟨w.heap.size, 9, none⟩) (World.block_lt_of_cell? _ _ xc9) (fun h => h)).trans xc9
  have kyc0 := (k16.cell (p := ⟨g5, o5 + i * 10, none⟩) (World.block_lt_of_cell? _ _ yc0) (fun h => h)).trans yc0
  have kyc1 := (k16.cell (p := ⟨g5, o5 + i * 10 + 1, none⟩) (World.block_lt_of_cell? _ _ yc1) (fun h => h)).trans yc1
  have kyc2 := (k16.cell (p := ⟨g5, o5 + i * 10 + 2, none⟩) (World.block_lt_of_cell? _ _ yc2) (fun h => h)).trans yc2
  have kyc3 := (k16.cell (p := ⟨g5, o5 + i * 10 + 3, none⟩) (World.block_lt_of_cell? _ _ yc3) (fun h => h)).trans yc3
  have kyc4 := (k16.cell (p := ⟨g5, o5 + i * 10 + 4, none⟩) (World.block_lt_of_cell? _ _ yc4) (fun h => h)).trans yc4
  have kyc5 := (k16.cell (p := ⟨g5, o5 + i * 10 + 5, none⟩) (World.block_lt_of_cell? _ _ yc5) (fun h => h)).trans yc5
  have kyc6 := (k16.cell (p := ⟨g5, o5 + i * 10 + 6, none⟩) (World.block_lt_of_cell? _ _ yc6) (fun h => h)).trans yc6
  have kyc7 := (k16.cell (p := ⟨g5, o5 + i * 10 + 7, none⟩) (World.block_lt_of_cell? _ _ yc7) (fun h => h)).trans yc7
  have kyc8 := (k16.cell (p := ⟨g5, o5 + i * 10 + 8, none⟩) (World.block_lt_of_cell? _ _ yc8) (fun h => h)).trans yc8
  have kyc9 := (k16.cell (p := ⟨g5, o5 + i * 10 + 9, none⟩) (World.block_lt_of_cell? _ _ yc9) (fun h => h)).trans yc9
  have KW16 := hid (KW15.out.trans k16)
  have R16 := hid (R15.out.keep k16 (fun _ _ h => h))
  have HV16 := hid ((k16.block _ (lt_of_heap HV15.out) (fun h => h)).trans HV15.out)
  refine hK _ _ ⟨ke0c, ke1c, ke2c, ke3c, kv2c, kxc0, kxc1, kxc2, kxc3, kxc4, kxc5, kxc6, kxc7, kxc8, kxc9, kyc0, kyc1, kyc2, kyc3, kyc4, kyc5, kyc6, kyc7, kyc8, kyc9⟩ ?_
  clear hK K k16 VM KW15 R15 HV15 HO15 HX15 HE15 e0c e1c e2c e3c v2c xc0 xc1 xc2 xc3 xc4 xc5 xc6 xc7 xc8 xc9 yc0 yc1 yc2 yc3 yc4 yc5 yc6 yc7 yc8 yc9
  try simp only [Act.put, List.setIfInBounds_toArray, List.set_cons_zero, List.set_cons_succ]
  repeat (first
    | (refine' wpT_calm (v := _) (by rfl) (fun W hW => ?_) ?_; rotate_left
       · ((try dsimp only at hW); go_simp; first | done | rfl)
       simp only [Act.put, List.setIfInBounds_toArray, List.set_cons_zero, List.set_cons_succ])
    | (refine' wpT_reads (v := _) (by rfl) ?_ ?_; rotate_left
       · (go_simp; first | done | rfl)
       simp only [Act.put, List.setIfInBounds_toArray, List.set_cons_zero, List.set_cons_succ])
    | (refine wpT_skip (by rfl) rfl ?_; simp only [Act.put, List.setIfInBounds_toArray, List.set_cons_zero, List.set_cons_succ])
    | (refine wpT_does (by rfl) (fun K hK => ?_); go_simp; refine hK _ _ ?_ ?_
       · (trivial)
       clear hK K; try simp only [Act.put, List.setIfInBounds_toArray, List.set_cons_zero, List.set_cons_succ])
    | (refine wpT_last (by rfl) (fun K hK => ?_); go_simp; refine hK _ _ ?_; clear hK K)
    | (refine wpT_nil ?_))
  refine wpT_maybe (bif rb then .bool sb else undef) ?_ ?_
  · cases rb with
    | false => exact .inr ⟨by rfl, rfl⟩
    | true => exact .inl ⟨by rfl, fun W hW => by go_simp; first | done | rfl⟩
  try simp only [Act.put, List.setIfInBounds_toArray, List.set_cons_zero, List.set_cons_succ]
  refine wpT_maybe (bif rb then .bool (!sb) else undef) ?_ ?_
  · cases rb with
    | false => exact .inr ⟨by rfl, rfl⟩
    | true => exact .inl ⟨by rfl, fun W hW => by go_simp; first | done | rfl⟩
  try simp only [Act.put, List.setIfInBounds_toArray, List.set_cons_zero, List.set_cons_succ]
  refine wpT_maybe (.bool false) ?_ ?_
  · have h := HRS.out
    cases rb with
    | false => exact .inl ⟨by rfl, fun W hW => by go_simp; first | done | rfl⟩
    | true =>
      cases sb with
      | false => exact absurd h (by decide)
      | true => exact .inl ⟨by rfl, fun W hW => by go_simp; first | done | rfl⟩
  try simp only [Act.put, List.setIfInBounds_toArray, List.set_cons_zero, List.set_cons_succ]
  repeat (first
    | (refine' wpT_calm (v := _) (by rfl) (fun W hW => ?_) ?_; rotate_left
       · ((try dsimp only at hW); go_simp; first | done | rfl)
       simp only [Act.put, List.setIfInBounds_toArray, List.set_cons_zero, List.set_cons_succ])
    | (refine' wpT_reads (v := _) (by rfl) ?_ ?_; rotate_left
       · (go_simp; first | done | rfl)
       simp only [Act.put, List.setIfInBounds_toArray, List.set_cons_zero, List.set_cons_succ])
    | (refine wpT_skip (by rfl) rfl ?_; simp only [Act.put, List.setIfInBounds_toArray, List.set_cons_zero, List.set_cons_succ])
    | (refine wpT_does (by rfl) (fun K hK => ?_); go_simp; refine hK _ _ ?_ ?_
       · (trivial)
       clear hK K; try simp only [Act.put, List.setIfInBounds_toArray, List.set_cons_zero, List.set_cons_succ])
    | (refine wpT_last (by rfl) (fun K hK => ?_); go_simp; refine hK _ _ ?_; clear hK K)
    | (refine wpT_nil ?_))
  clear ke0c ke1c ke2c ke3c kv2c kxc0 kxc1 kxc2 kxc3 kxc4 kxc5 kxc6 kxc7 kxc8 kxc9 kyc0 kyc1 kyc2 kyc3 kyc4 kyc5 kyc6 kyc7 kyc8 kyc9 hvb RE
  have v0 : w16.cell? ⟨w5.heap.size, 0, none⟩ = some (.int .i64 dd) := by rw [cell_of_row _ _ 0 _ _ _ HV16.out]; rfl
  have v1' : w16.cell? ⟨w5.heap.size, 1, none⟩ = some (.string B) := by rw [cell_of_row _ _ 1 _ _ _ HV16.out]; rfl
  have v2 : w16.cell? ⟨w5.heap.size, 2, none⟩ = some (.slice (some ⟨g5, o5, none⟩) m m) := by rw [cell_of_row _ _ 2 _ _ _ HV16.out]; rfl
  have v3 : w16.cell? ⟨w5.heap.size, 3, none⟩ = some (.string E) := by rw [cell_of_row _ _ 3 _ _ _ HV16.out]; rfl
  have him : (i : Int) ≤ (m : Int) := by omega
  have him1 : (i : Int) + 1 ≤ (m : Int) := by omega
  have wi1 : IntKind.i64.wrap ((i : Int) + 1) = (i : Int) + 1 := IntWalk.i64_in _ ⟨by omega, by omega⟩
  have ti1 : ((i : Int) + 1).toNat = i + 1 := by omega
  have lv16 : w5.heap.size < w16.heap.size := lt_of_heap HV16.out
  go_wp2_with fail


  obtain ⟨W17, hW17⟩ : ∃ W, w16.alloc (.cells #[.int .i64 dd, .string B, .slice (some ⟨g5, o5, none⟩) m m, .string E] 45) = W := ⟨_, rfl⟩
  have K17 : Keep (fun _ => False) w16 W17 := by rw [← hW17]; exact (Keep.refl _ _).alloc _
  have pgrow : W17.heap[w16.heap.size]? = some (.cells #[.int .i64 dd, .string B, .slice (some ⟨g5, o5, none⟩) m m, .string E] 45 (0, 0)) := by rw [← hW17]; exact heap_alloc_new w16 _
  rw [hW17]
  obtain ⟨pg, hpg⟩ : ∃ pg, w16.heap.size = pg := ⟨_, rfl⟩
  rw [hpg] at pgrow lv16 ⊢
  have KW17 := hid (KW16.out.trans K17)
  have R17 := hid (R16.out.keep K17 (fun _ _ h => h))
  have HV17 := hid ((K17.block _ (lt_of_heap HV16.out) (fun h => h)).trans HV16.out)
  have PG17 := hid pgrow
  have lpg : Hid (w.heap.size ≤ pg) := hid (by rw [← hpg]; exact KW16.out.size)
  have HG5 : Hid (g5 < pg) := hid (by rw [← hpg]; exact World.block_lt_of_cell? _ _ (cells_at R16.out i hil _ rfl 0 _ rfl))
  clear hW17 K17 pgrow hpg v0 v1' v2 v3 KW16 R16 HV16
  have KWD := hid KW17.out.drew
  have RD := hid (R17.out.keep ((Keep.refl (fun _ => False) W17).drew) (fun _ _ h => h))
  have HVD : Hid (W17.drew.heap[w5.heap.size]? = some (.cells #[.int .i64 dd, .string B, .slice (some ⟨g5, o5, none⟩) m m, .string E] 45 (0, 0))) := hid HV17.out
  have PGD : Hid (W17.drew.heap[pg]? = some (.cells #[.int .i64 dd, .string B, .slice (some ⟨g5, o5, none⟩) m m, .string E] 45 (0, 0))) := hid PG17.out
  clear KW17 R17 HV17 PG17
  have v2c : W17.drew.cell? ⟨w5.heap.size, 2, none⟩ = some (.slice (some ⟨g5, o5, none⟩) m m) := by rw [cell_of_row _ _ 2 _ _ _ HVD.out]; rfl
  refine wp_region_text [2,0,0,0,0,2,0,0,0,0,0,2,0,3] (fun W => W.cell? ⟨w5.heap.size, 2, none⟩ = some (.slice (some ⟨g5, o5, none⟩) m m)) (by kernel_rfl) (by kernel_rfl) v2c ?_
  obtain ⟨D, hD⟩ : ∃ D, W17.drew = D := ⟨_, rfl⟩
  rw [hD] at KWD RD HVD PGD v2c ⊢
  clear hD
  have k0 : Keep (fun _ => False) D (D.alloc (.cells #[] 42)) := (Keep.refl _ _).alloc _
  have HK0' := hid k0
  have MR0 := hid (made_rowR D)
  have SRC1 := hid (((RD.out.keep k0 (fun _ _ h => h)).take HM.out (Nat.le_of_lt hi2)).src)
  refine wpT_does (by rfl) (fun K hK => ?_)
  go_simp
  have v2d := (k0.cell (p := ⟨w5.heap.size, 2, none⟩) (World.block_lt_of_cell? _ _ v2c) (fun h => h)).trans v2c
  refine hK _ _ v2d ?_
  clear hK K k0 v2c
  try simp only [Act.put, List.setIfInBounds_toArray, List.set_cons_zero, List.set_cons_succ]
  repeat (first
    | (refine' wpT_calm (v := _) (by rfl) (fun W hW => ?_) ?_; rotate_left
       · ((try dsimp only at hW); go_simp; first | done | rfl)
       simp only [Act.put, List.setIfInBounds_toArray, List.set_cons_zero, List.set_cons_succ])
    | (refine' wpT_reads (v := _) (by rfl) ?_ ?_; rotate_left
       · (go_simp; first | done | rfl)
       simp only [Act.put, List.setIfInBounds_toArray, List.set_cons_zero, List.set_cons_succ])
    | (refine wpT_skip (by rfl) rfl ?_; simp only [Act.put, List.setIfInBounds_toArray, List.set_cons_zero, List.set_cons_succ])
    | (refine wpT_does (by rfl) (fun K hK => ?_); go_simp; refine hK _ _ ?_ ?_
       · (trivial)
       clear hK K; try simp only [Act.put, List.setIfInBounds_toArray, List.set_cons_zero, List.set_cons_succ])
    | (refine wpT_last (by rfl) (fun K hK => ?_); go_simp; refine hK _ _ ?_; clear hK K)
    | (refine wpT_nil ?_))
  refine wpT_does (by rfl) (fun K hK => ?_)
  refine wp_append_recs _ (.tmp 93) (.tmp 97) rfl _ [] rfl MR0.out _ (L.l.take i).length (L.l.take i) rfl SRC1.out (by rw [List.length_take]; show 0 + _ ≤ 1000000; omega) ?_
  intro v98 w18 o98 f98 k98
  have o98 : OwnR w18 v98 (L.l.take i) := o98
  have hti : (L.l.take i).length = i := by rw [List.length_take, HM.out]; omega
  have HTI := hid hti
  have O98 := hid o98
  obtain ⟨a98, c98, hv98⟩ := o98.form
  rw [hti] at hv98
  subst hv98
  have K18 : Keep (fun _ => False) D w18 := HK0'.out.then k98 (fun k hk => .inr (by have : D.heap.size = k := Option.some.inj hk; omega))
  have F98 : Hid (∀ k, (Value.slice a98 i c98).ownBlock = some k → D.heap.size ≤ k) := hid (fun k hk => (f98 k hk).elim (fun e => Nat.le_of_eq (Option.some.inj e)) (fun e => by rw [World.size_alloc] at e; omega))
  have v2e := (K18.cell (p := ⟨w5.heap.size, 2, none⟩) (lt_of_heap HVD.out) (fun h => h)).trans (show D.cell? ⟨w5.heap.size, 2, none⟩ = some (.slice (some ⟨g5, o5, none⟩) m m) from by rw [cell_of_row _ _ 2 _ _ _ HVD.out]; rfl)
  have HK18 := hid K18
  refine hK _ _ v2e ?_
  clear hK K o98 f98 k98 K18 hti v2d MR0 SRC1
  try simp only [Act.put, List.setIfInBounds_toArray, List.set_cons_zero, List.set_cons_succ]
  by_cases hlast : i + 1 < m
  · clear him1
    have him1 : (i : Int) + 1 ≤ (m : Int) := by omega
    have hmz2 : 1 ≤ m := by omega
    have hne : ¬ m = i + 1 := by omega
    have hlt1 : (i : Int) + 1 < (m : Int) := by omega
    have heq1 : ((i : Int) + 1 == (m : Int)) = false := by simp; omega
    have rd := (RD.out.keep HK18.out (fun _ _ h => h)).drop HM.out (k := i + 1) (by omega) (Nat.le_refl _)
    rw [if_neg hne] at rd
    simp only [Option.map_some, add_off] at rd
    have SRC2 := hid rd.src
    clear rd
    repeat (first
      | (refine' wpT_calm (v := _) (by rfl) (fun W hW => ?_) ?_; rotate_left
         · ((try dsimp only at hW); go_simp; first | done | rfl)
         simp only [Act.put, List.setIfInBounds_toArray, List.set_cons_zero, List.set_cons_succ])
      | (refine' wpT_reads (v := _) (by rfl) ?_ ?_; rotate_left
         · (go_simp; first | done | rfl)
         simp only [Act.put, List.setIfInBounds_toArray, List.set_cons_zero, List.set_cons_succ])
      | (refine wpT_skip (by rfl) rfl ?_; simp only [Act.put, List.setIfInBounds_toArray, List.set_cons_zero, List.set_cons_succ])
      | (refine wpT_does (by rfl) (fun K hK => ?_); go_simp; refine hK _ _ ?_ ?_
         · (trivial)
         clear hK K; try simp only [Act.put, List.setIfInBounds_toArray, List.set_cons_zero, List.set_cons_succ])
      | (refine wpT_last (by rfl) (fun K hK => ?_); go_simp; refine hK _ _ ?_; clear hK K)
      | (refine wpT_nil ?_))
    refine wpT_does (by rfl) (fun K hK => ?_)
    refine wp_append_recs _ (.tmp 98) (.tmp 103) rfl (.slice a98 i c98) (L.l.take i) rfl O98.out _ (L.l.drop (i + 1)).length (L.l.drop (i + 1)) rfl SRC2.out (by rw [HTI.out]; rw [List.length_drop, HM.out]; omega) ?_
    intro v104 w19 o104 f104 k104
    obtain ⟨GL, hGL⟩ : ∃ GL, L.l.take i ++ (L.l.drop (i + 1)) = GL := ⟨_, rfl⟩
    rw [hGL] at o104
    have hgl : GL.length = (m - 1) := by rw [← hGL, List.length_append, HTI.out]; rw [List.length_drop, HM.out]; omega
    obtain ⟨ag, cg, hvg⟩ := o104.form
    rw [hgl] at hvg
    subst hvg
    have K19 : Keep (fun _ => False) D w19 := HK18.out.then k104 (fun k hk => .inr (F98.out k hk))
    have FG : Hid (∀ k, (Value.slice ag (m - 1) cg).ownBlock = some k → D.heap.size ≤ k) := hid (fun k hk => (f104 k hk).elim (F98.out k) (fun e => Nat.le_trans HK18.out.size e))
    have v2f := (K19.cell (p := ⟨w5.heap.size, 2, none⟩) (lt_of_heap HVD.out) (fun h => h)).trans (show D.cell? ⟨w5.heap.size, 2, none⟩ = some (.slice (some ⟨g5, o5, none⟩) m m) from by rw [cell_of_row _ _ 2 _ _ _ HVD.out]; rfl)
    have PG19 := (K19.block _ (lt_of_heap PGD.out) (fun h => h)).trans PGD.out
    have g2c : w19.cell? ⟨pg, 2, none⟩ = some (.slice (some ⟨g5, o5, none⟩) m m) := by rw [cell_of_row _ _ 2 _ _ _ PG19]; rfl
    have fg2 : w19.frozen? ⟨pg, 2, none⟩ = false := frozen_of_row _ _ 2 _ _ PG19
    have lpd : pg < D.heap.size := lt_of_heap PGD.out
    have K20 : Keep (fun k => k = pg) w19 (w19.setCell ⟨pg, 2, none⟩ (.slice ag (m - 1) cg)) := (Keep.refl _ _).setOwn _
    have OG := hid (o104.keep K20 (fun k hk e => by have := FG.out k hk; omega))
    have PG20 := hid (heap_setCell_same _ _ 2 _ _ (.slice ag (m - 1) cg) PG19)
    have KWG := hid ((KWD.out.trans K19).setCell (p := ⟨pg, 2, none⟩) (.inr lpg.out) (.slice ag (m - 1) cg))
    have KG := (K19.mono (G := fun k => k = pg) (fun _ _ h => h.elim)).trans K20
    have RG := hid (RD.out.keep KG (fun k hk e => by have : g5 = k := Option.some.inj hk; have := HG5.out; omega))
    have HVG := hid ((KG.block _ (lt_of_heap HVD.out) (fun e => by omega)).trans HVD.out)
    have HGL := hid hGL
    have HGN := hid hgl
    refine hK _ _ v2f ?_
    clear hK K o104 f104 k104 K19 K20 PG19 KG hGL hgl SRC2 v2e v2f
    try simp only [Act.put, List.setIfInBounds_toArray, List.set_cons_zero, List.set_cons_succ]
    have gcell := g2c
    repeat (first
      | (refine' wpT_calm (v := _) (by rfl) (fun W hW => ?_) ?_; rotate_left
         · ((try dsimp only at hW); go_simp; first | done | rfl)
         simp only [Act.put, List.setIfInBounds_toArray, List.set_cons_zero, List.set_cons_succ])
      | (refine' wpT_reads (v := _) (by rfl) ?_ ?_; rotate_left
         · (go_simp; first | done | rfl)
         simp only [Act.put, List.setIfInBounds_toArray, List.set_cons_zero, List.set_cons_succ])
      | (refine wpT_skip (by rfl) rfl ?_; simp only [Act.put, List.setIfInBounds_toArray, List.set_cons_zero, List.set_cons_succ])
      | (refine wpT_does (by rfl) (fun K hK => ?_); go_simp; refine hK _ _ ?_ ?_
         · (trivial)
         clear hK K; try simp only [Act.put, List.setIfInBounds_toArray, List.set_cons_zero, List.set_cons_succ])
      | (refine wpT_last (by rfl) (fun K hK => ?_); go_simp; refine hK _ _ ?_; clear hK K)
      | (refine wpT_nil ?_))
    clear gcell g2c fg2
    obtain ⟨W20, hW20⟩ : ∃ W, w19.setCell ⟨pg, 2, none⟩ (.slice ag (m - 1) cg) = W := ⟨_, rfl⟩
    rw [hW20] at OG PG20 KWG RG HVG ⊢
    clear hW20 O98 F98 FG HK18 RD HVD PGD KWD lpd HK0'
    have KWH := hid KWG.out.drew
    have OH := hid (OG.out.keep ((Keep.refl (fun _ => False) W20).drew) (fun _ _ h => h))
    have RH := hid (RG.out.keep ((Keep.refl (fun _ => False) W20).drew) (fun _ _ h => h))
    have HVH : Hid (W20.drew.heap[w5.heap.size]? = some (.cells #[.int .i64 dd, .string B, .slice (some ⟨g5, o5, none⟩) m m, .string E] 45 (0, 0))) := hid HVG.out
    have PGH : Hid (W20.drew.heap[pg]? = some (.cells #[.int .i64 dd, .string B, .slice ag (m - 1) cg, .string E] 45 (0, 0))) := hid PG20.out
    clear KWG OG RG HVG PG20
    have a1 : W20.drew.cell? ⟨w5.heap.size, 1, none⟩ = some (.string B) := by rw [cell_of_row _ _ 1 _ _ _ HVH.out]; rfl
    have a2 : W20.drew.cell? ⟨w5.heap.size, 2, none⟩ = some (.slice (some ⟨g5, o5, none⟩) m m) := by rw [cell_of_row _ _ 2 _ _ _ HVH.out]; rfl
    have a3 : W20.drew.cell? ⟨w5.heap.size, 3, none⟩ = some (.string E) := by rw [cell_of_row _ _ 3 _ _ _ HVH.out]; rfl
    have b0 : W20.drew.cell? ⟨pg, 0, none⟩ = some (.int .i64 dd) := by rw [cell_of_row _ _ 0 _ _ _ PGH.out]; rfl
    have b1 : W20.drew.cell? ⟨pg, 1, none⟩ = some (.string B) := by rw [cell_of_row _ _ 1 _ _ _ PGH.out]; rfl
    have b2 : W20.drew.cell? ⟨pg, 2, none⟩ = some (.slice ag (m - 1) cg) := by rw [cell_of_row _ _ 2 _ _ _ PGH.out]; rfl
    have b3 : W20.drew.cell? ⟨pg, 3, none⟩ = some (.string E) := by rw [cell_of_row _ _ 3 _ _ _ PGH.out]; rfl
    go_wp2_with fail
    refine wp_region_text [0,0,0,0,0,0,0,0,2,0,0,0,0,0,0,0,0,0,0,0,2,0,0,0,0,0,2,0,0,0,0,0,0] (fun W => W.cell? ⟨w5.heap.size, 1, none⟩ = some (.string B) ∧ W.cell? ⟨w5.heap.size, 2, none⟩ = some (.slice (some ⟨g5, o5, none⟩) m m) ∧ W.cell? ⟨w5.heap.size, 3, none⟩ = some (.string E) ∧ W.cell? ⟨pg, 0, none⟩ = some (.int .i64 dd) ∧ W.cell? ⟨pg, 1, none⟩ = some (.string B) ∧ W.cell? ⟨pg, 2, none⟩ = some (.slice ag (m - 1) cg) ∧ W.cell? ⟨pg, 3, none⟩ = some (.string E)) (by kernel_rfl) (by kernel_rfl) ⟨a1, a2, a3, b0, b1, b2, b3⟩ ?_
    obtain ⟨D2, hD2⟩ : ∃ D, W20.drew = D := ⟨_, rfl⟩
    rw [hD2] at KWH OH RH HVH PGH a1 a2 a3 b0 b1 b2 b3 ⊢
    clear hD2
    repeat (first
      | (refine' wpT_calm (v := _) (by rfl) (fun W hW => ?_) ?_; rotate_left
         · ((try dsimp only at hW); go_simp; first | done | rfl)
         simp only [Act.put, List.setIfInBounds_toArray, List.set_cons_zero, List.set_cons_succ])
      | (refine' wpT_reads (v := _) (by rfl) ?_ ?_; rotate_left
         · (go_simp; first | done | rfl)
         simp only [Act.put, List.setIfInBounds_toArray, List.set_cons_zero, List.set_cons_succ])
      | (refine wpT_skip (by rfl) rfl ?_; simp only [Act.put, List.setIfInBounds_toArray, List.set_cons_zero, List.set_cons_succ])
      | (refine wpT_does (by rfl) (fun K hK => ?_); go_simp; refine hK _ _ ?_ ?_
         · (trivial)
         clear hK K; try simp only [Act.put, List.setIfInBounds_toArray, List.set_cons_zero, List.set_cons_succ])
      | (refine wpT_last (by rfl) (fun K hK => ?_); go_simp; refine hK _ _ ?_; clear hK K)
      | (refine wpT_nil ?_))
    have hv19 : ver dd L.base GL L.head = 19 := ver_bad VOK.out GL (by rw [HGN.out]; omega) (by rw [← HGL.out, ← HDD.out]; exact seqs_gone AA.out HH.out (by have := HLE.out; omega) i (by rw [HM.out]; omega))
    have VG := hid (VF.out D2 _ _ _ GL OH.out.reads)
    rw [hv19] at VG
    clear hv19
    refine wpT_does (by rfl) (fun K hK => ?_)
    go_simp
    refine VG.out.mono ?_
    rintro _ w21 ⟨rfl, k21⟩
    have ca1 := (k21.cell (p := ⟨w5.heap.size, 1, none⟩) (World.block_lt_of_cell? _ _ a1) (fun h => h)).trans a1
    have ca2 := (k21.cell (p := ⟨w5.heap.size, 2, none⟩) (World.block_lt_of_cell? _ _ a2) (fun h => h)).trans a2
    have ca3 := (k21.cell (p := ⟨w5.heap.size, 3, none⟩) (World.block_lt_of_cell? _ _ a3) (fun h => h)).trans a3
    have cb0 := (k21.cell (p := ⟨pg, 0, none⟩) (World.block_lt_of_cell? _ _ b0) (fun h => h)).trans b0
    have cb1 := (k21.cell (p := ⟨pg, 1, none⟩) (World.block_lt_of_cell? _ _ b1) (fun h => h)).trans b1
    have cb2 := (k21.cell (p := ⟨pg, 2, none⟩) (World.block_lt_of_cell? _ _ b2) (fun h => h)).trans b2
    have cb3 := (k21.cell (p := ⟨pg, 3, none⟩) (World.block_lt_of_cell? _ _ b3) (fun h => h)).trans b3
    have KWJ := hid (KWH.out.trans k21)
    have RJ := hid (RH.out.keep k21 (fun _ _ h => h))
    have HVJ := hid ((k21.block _ (lt_of_heap HVH.out) (fun h => h)).trans HVH.out)
    refine hK _ _ ⟨ca1, ca2, ca3, cb0, cb1, cb2, cb3⟩ ?_
    clear hK K k21 a1 a2 a3 b0 b1 b2 b3
    try simp only [Act.put, List.setIfInBounds_toArray, List.set_cons_zero, List.set_cons_succ]
    repeat (first
      | (refine' wpT_calm (v := _) (by rfl) (fun W hW => ?_) ?_; rotate_left
         · ((try dsimp only at hW); go_simp; first | done | rfl)
         simp only [Act.put, List.setIfInBounds_toArray, List.set_cons_zero, List.set_cons_succ])
      | (refine' wpT_reads (v := _) (by rfl) ?_ ?_; rotate_left
         · (go_simp; first | done | rfl)
         simp only [Act.put, List.setIfInBounds_toArray, List.set_cons_zero, List.set_cons_succ])
      | (refine wpT_skip (by rfl) rfl ?_; simp only [Act.put, List.setIfInBounds_toArray, List.set_cons_zero, List.set_cons_succ])
      | (refine wpT_does (by rfl) (fun K hK => ?_); go_simp; refine hK _ _ ?_ ?_
         · (trivial)
         clear hK K; try simp only [Act.put, List.setIfInBounds_toArray, List.set_cons_zero, List.set_cons_succ])
      | (refine wpT_last (by rfl) (fun K hK => ?_); go_simp; refine hK _ _ ?_; clear hK K)
      | (refine wpT_nil ?_))
    clear ca1 ca2 ca3 cb0 cb1 cb2 cb3
    have HKI : Hid (k < m) := hid hk2
    have hkl : k < L.l.length := by rw [HM.out]; exact hk2
    have hkm : (k : Int) < (m : Int) := by omega
    have him9 : (i : Int) < (m : Int) := by omega
    have q0 : w21.cell? ⟨w5.heap.size, 0, none⟩ = some (.int .i64 dd) := by rw [cell_of_row _ _ 0 _ _ _ HVJ.out]; rfl
    have q1' : w21.cell? ⟨w5.heap.size, 1, none⟩ = some (.string B) := by rw [cell_of_row _ _ 1 _ _ _ HVJ.out]; rfl
    have q2' : w21.cell? ⟨w5.heap.size, 2, none⟩ = some (.slice (some ⟨g5, o5, none⟩) m m) := by rw [cell_of_row _ _ 2 _ _ _ HVJ.out]; rfl
    have q3 : w21.cell? ⟨w5.heap.size, 3, none⟩ = some (.string E) := by rw [cell_of_row _ _ 3 _ _ _ HVJ.out]; rfl
    have lv21 : w5.heap.size < w21.heap.size := lt_of_heap HVJ.out
    have KA : Keep (fun _ => False) w21 ((w21.alloc (.cells #[.int .i64 dd, .string B, .slice (some ⟨g5, o5, none⟩) m m, .string E] 45)).alloc (.cells #[] 42)) := ((Keep.refl _ _).alloc _).alloc _
    have qa2 := (KA.cell (p := ⟨w5.heap.size, 2, none⟩) lv21 (fun h => h)).trans q2'
    have SA : ((w21.alloc (.cells #[.int .i64 dd, .string B, .slice (some ⟨g5, o5, none⟩) m m, .string E] 45)).alloc (.cells #[] 42)).heap.size = w21.heap.size + 2 := by rw [World.size_alloc, World.size_alloc]
    have SB : (w21.alloc (.cells #[.int .i64 dd, .string B, .slice (some ⟨g5, o5, none⟩) m m, .string E] 45)).heap.size = w21.heap.size + 1 := World.size_alloc _ _
    have rowS : ((w21.alloc (.cells #[.int .i64 dd, .string B, .slice (some ⟨g5, o5, none⟩) m m, .string E] 45)).alloc (.cells #[] 42)).heap[w21.heap.size]? = some (.cells #[.int .i64 dd, .string B, .slice (some ⟨g5, o5, none⟩) m m, .string E] 45 (0, 0)) := by
      rw [heap_alloc_old _ _ (by rw [World.size_alloc]; exact Nat.lt_succ_self _)]
      exact heap_alloc_new w21 _
    have HS := hid ((RJ.out.keep KA (fun _ _ h => h)).src)
    have HSA := hid SA
    have HKA := hid KA
    have HPS := hid rowS
    have mr := made_rowR (w21.alloc (.cells #[.int .i64 dd, .string B, .slice (some ⟨g5, o5, none⟩) m m, .string E] 45))
    rw [SB] at mr
    have MR := hid mr
    clear KA SA SB rowS mr
    go_wp2_with (at_builtin; refine wpList_plain rfl (fun K hK => wp_append_recs _ (.tmp 140) (.tmp 142) rfl _ [] rfl MR.out _ L.l.length L.l rfl HS.out (by rw [HM.out]; show 0 + m ≤ 1000000; omega) ?_))
    intro v22 w22 o22 f22 k22
    have o22 : OwnR w22 v22 L.l := o22
    obtain ⟨gs, cs, hv22⟩ := o22.block (by rw [HM.out]; omega)
    rw [HM.out] at hv22
    subst hv22
    have hgs : w21.heap.size + 1 ≤ gs := (f22 gs rfl).elim (fun e => Nat.le_of_eq (Option.some.inj e)) (fun e => by omega)
    have k22b : Keep (fun _ => False) w21 w22 := HKA.out.then k22 (fun k hk => .inr (by have : w21.heap.size + 1 = k := Option.some.inj hk; omega))
    have rS := (k22.block _ (by rw [HSA.out]; omega) (fun e => by have : w21.heap.size + 1 = w21.heap.size := Option.some.inj e; omega)).trans HPS.out
    obtain ⟨ps, hps⟩ : ∃ ps, w21.heap.size = ps := ⟨_, rfl⟩
    have hg5s : g5 < ps := by rw [← hps]; exact World.block_lt_of_cell? _ _ (cells_at RJ.out i hil _ rfl 0 _ rfl)
    have hwps : w.heap.size ≤ ps := by rw [← hps]; exact KWJ.out.size
    rw [hps] at hgs rS lv21 ⊢
    have HP2 := hid hps
    have s2c : w22.cell? ⟨ps, 2, none⟩ = some (.slice (some ⟨g5, o5, none⟩) m m) := by rw [cell_of_row _ _ 2 _ _ _ rS]; rfl
    have fs2 : w22.frozen? ⟨ps, 2, none⟩ = false := frozen_of_row _ _ 2 _ _ rS
    have K23 : Keep (fun k => k = ps) w22 (w22.setCell ⟨ps, 2, none⟩ (.slice (some ⟨gs, 0, none⟩) m cs)) := (Keep.refl _ _).setOwn _
    have O23 := hid (o22.keep K23 (fun k hk e => by have : gs = k := Option.some.inj hk; omega))
    have PS23 := hid (heap_setCell_same _ _ 2 _ _ (.slice (some ⟨gs, 0, none⟩) m cs) rS)
    have KW23 := hid ((KWJ.out.trans k22b).setCell (p := ⟨ps, 2, none⟩) (.inr hwps) (.slice (some ⟨gs, 0, none⟩) m cs))
    have KJ := (k22b.mono (G := fun k => k = ps) (fun _ _ h => h.elim)).trans K23
    have R23 := hid (RJ.out.keep KJ (fun k hk e => by have : g5 = k := Option.some.inj hk; omega))
    have HV23 := hid ((KJ.block _ (lt_of_heap HVJ.out) (fun e => by omega)).trans HVJ.out)
    refine hK _ _ ?_
    clear hK K o22 f22 k22 k22b rS K23 KJ hps qa2 q0 q1' q2' q3 HS HSA HKA HPS MR KWJ RJ HVJ
    go_wp2_with fail
    obtain ⟨W23, hW23⟩ : ∃ W, (w22.setCell ⟨ps, 2, none⟩ (.slice (some ⟨gs, 0, none⟩) m cs)) = W := ⟨_, rfl⟩
    rw [hW23] at O23 PS23 KW23 R23 HV23 ⊢
    clear hW23 s2c fs2
    have KW24 := hid KW23.out.drew
    have O24 := hid (O23.out.keep ((Keep.refl (fun _ => False) W23).drew) (fun _ _ h => h))
    have R24 := hid (R23.out.keep ((Keep.refl (fun _ => False) W23).drew) (fun _ _ h => h))
    have HV24 : Hid (W23.drew.heap[w5.heap.size]? = some (.cells #[.int .i64 dd, .string B, .slice (some ⟨g5, o5, none⟩) m m, .string E] 45 (0, 0))) := hid HV23.out
    have PS24 : Hid (W23.drew.heap[ps]? = some (.cells #[.int .i64 dd, .string B, .slice (some ⟨gs, 0, none⟩) m cs, .string E] 45 (0, 0))) := hid PS23.out
    clear KW23 O23 R23 HV23 PS23
    obtain ⟨yk, hyk⟩ : ∃ y, L.l[k]'hkl = y := ⟨_, rfl⟩
    obtain ⟨yi, hyi⟩ : ∃ y, L.l[i]'hil = y := ⟨_, rfl⟩
    have ck := cells_at R24.out k hkl yk hyk
    have ci := cells_at R24.out i hil yi hyi
    have ck0 := ck 0 (.int .i64 yk.s) rfl
    have ci0 := ci 0 (.int .i64 yi.s) rfl
    have ck1 := ck 1 (.int .i64 yk.t) rfl
    have ci1 := ci 1 (.int .i64 yi.t) rfl
    have ck2 := ck 2 (.int .i64 yk.c) rfl
    have ci2 := ci 2 (.int .i64 yi.c) rfl
    have ck3 := ck 3 (.int .i64 yk.o) rfl
    have ci3 := ci 3 (.int .i64 yi.o) rfl
    have ck4 := ck 4 (.int .i64 yk.e) rfl
    have ci4 := ci 4 (.int .i64 yi.e) rfl
    have ck5 := ck 5 (.int .i64 yk.n) rfl
    have ci5 := ci 5 (.int .i64 yi.n) rfl
    have ck6 := ck 6 (.int .i64 yk.m) rfl
    have ci6 := ci 6 (.int .i64 yi.m) rfl
    have ck7 := ck 7 (.int .i64 yk.a) rfl
    have ci7 := ci 7 (.int .i64 yi.a) rfl
    have ck8 := ck 8 (.int .i64 yk.b) rfl
    have ci8 := ci 8 (.int .i64 yi.b) rfl
    have ck9 := ck 9 (.int .i64 yk.d) rfl
    have ci9 := ci 9 (.int .i64 yi.d) rfl
    rw [Nat.add_zero] at ck0 ci0
    have sp2 : W23.drew.cell? ⟨ps, 2, none⟩ = some (.slice (some ⟨gs, 0, none⟩) m cs) := by rw [cell_of_row _ _ 2 _ _ _ PS24.out]; rfl
    have vp2 : W23.drew.cell? ⟨w5.heap.size, 2, none⟩ = some (.slice (some ⟨g5, o5, none⟩) m m) := by rw [cell_of_row _ _ 2 _ _ _ HV24.out]; rfl
    have HYK := hid hyk
    have HYI := hid hyi
    clear ck ci hyk hyi
    refine wp_region_text [0,0,0,0,0,0,0,0,0,0,0,0,0,0,0,0,0,2,0,3] (fun W => W.cell? ⟨ps, 2, none⟩ = some (.slice (some ⟨gs, 0, none⟩) m cs) ∧ W.cell? ⟨w5.heap.size, 2, none⟩ = some (.slice (some ⟨g5, o5, none⟩) m m) ∧ W.cell? ⟨g5, o5 + k * 10, none⟩ = some (.int .i64 yk.s) ∧ W.cell? ⟨g5, o5 + k * 10 + 1, none⟩ = some (.int .i64 yk.t) ∧ W.cell? ⟨g5, o5 + k * 10 + 2, none⟩ = some (.int .i64 yk.c) ∧ W.cell? ⟨g5, o5 + k * 10 + 3, none⟩ = some (.int .i64 yk.o) ∧ W.cell? ⟨g5, o5 + k * 10 + 4, none⟩ = some (.int .i64 yk.e) ∧ W.cell? ⟨g5, o5 + k * 10 + 5, none⟩ = some (.int .i64 yk.n) ∧ W.cell? ⟨g5, o5 + k * 10 + 6, none⟩ = some (.int .i64 yk.m) ∧ W.cell? ⟨g5, o5 + k * 10 + 7, none⟩ = some (.int .i64 yk.a) ∧ W.cell? ⟨g5, o5 + k * 10 + 8, none⟩ = some (.int .i64 yk.b) ∧ W.cell? ⟨g5, o5 + k * 10 + 9, none⟩ = some (.int .i64 yk.d) ∧ W.cell? ⟨g5, o5 + i * 10, none⟩ = some (.int .i64 yi.s) ∧ W.cell? ⟨g5, o5 + i * 10 + 1, none⟩ = some (.int .i64 yi.t) ∧ W.cell? ⟨g5, o5 + i * 10 + 2, none⟩ = some (.int .i64 yi.c) ∧ W.cell? ⟨g5, o5 + i * 10 + 3, none⟩ = some (.int .i64 yi.o) ∧ W.cell? ⟨g5, o5 + i * 10 + 4, none⟩ = some (.int .i64 yi.e) ∧ W.cell? ⟨g5, o5 + i * 10 + 5, none⟩ = some (.int .i64 yi.n) ∧ W.cell? ⟨g5, o5 + i * 10 + 6, none⟩ = some (.int .i64 yi.m) ∧ W.cell? ⟨g5, o5 + i * 10 + 7, none⟩ = some (.int .i64 yi.a) ∧ W.cell? ⟨g5, o5 + i * 10 + 8, none⟩ = some (.int .i64 yi.b) ∧ W.cell? ⟨g5, o5 + i * 10 + 9, none⟩ = some (.int .i64 yi.d)) (by kernel_rfl) (by kernel_rfl) ⟨sp2, vp2, ck0, ck1, ck2, ck3, ck4, ck5, ck6, ck7, ck8, ck9, ci0, ci1, ci2, ci3, ci4, ci5, ci6, ci7, ci8, ci9⟩ ?_
    obtain ⟨D3, hD3⟩ : ∃ D, W23.drew = D := ⟨_, rfl⟩
    rw [hD3] at KW24 O24 R24 HV24 PS24 sp2 vp2 ck0 ck1 ck2 ck3 ck4 ck5 ck6 ck7 ck8 ck9 ci0 ci1 ci2 ci3 ci4 ci5 ci6 ci7 ci8 ci9 ⊢
    clear hD3
    repeat (first
      | (refine' wpT_calm (v := _) (by rfl) (fun W hW => ?_) ?_; rotate_left
         · ((try dsimp only at hW); go_simp; first | done | rfl)
         simp only [Act.put, List.setIfInBounds_toArray, List.set_cons_zero, List.set_cons_succ])
      | (refine' wpT_reads (v := _) (by rfl) ?_ ?_; rotate_left
         · (go_simp; first | done | rfl)
         simp only [Act.put, List.setIfInBounds_toArray, List.set_cons_zero, List.set_cons_succ])
      | (refine wpT_skip (by rfl) rfl ?_; simp only [Act.put, List.setIfInBounds_toArray, List.set_cons_zero, List.set_cons_succ])
      | (refine wpT_does (by rfl) (fun K hK => ?_); go_simp; refine hK _ _ ?_ ?_
         · (trivial)
         clear hK K; try simp only [Act.put, List.setIfInBounds_toArray, List.set_cons_zero, List.set_cons_succ])
      | (refine wpT_last (by rfl) (fun K hK => ?_); go_simp; refine hK _ _ ?_; clear hK K)
      | (refine wpT_nil ?_))
    refine wpT_does (by rfl) (fun K hK => ?_)
    refine wp_store_rec (.tmp 161) (.tmp 155) rfl gs m cs i L.l O24.out hil rfl yk rfl ?_
    intro w25 o25 k25
    have ksp2 := (k25.cell (p := ⟨ps, 2, none⟩) (World.block_lt_of_cell? _ _ sp2) (by dsimp only; omega)).trans sp2
    have kvp2 := (k25.cell (p := ⟨w5.heap.size, 2, none⟩) (World.block_lt_of_cell? _ _ vp2) (by dsimp only; omega)).trans vp2
    have kck0 := (k25.cell (p := ⟨g5, o5 + k * 10, none⟩) (World.block_lt_of_cell? _ _ ck0) (by dsimp only; omega)).trans ck0
    have kck1 := (k25.cell (p := ⟨g5, o5 + k * 10 + 1, none⟩) (World.block_lt_of_cell? _ _ ck1) (by dsimp only; omega)).trans ck1
    have kck2 := (k25.cell (p := ⟨g5, o5 + k * 10 + 2, none⟩) (World.block_lt_of_cell? _ _ ck2) (by dsimp only; omega)).trans ck2
    have kck3 := (k25.cell (p := ⟨g5, o5 + k * 10 + 3, none⟩) (World.block_lt_of_cell? _ _ ck3) (by dsimp only; omega)).trans ck3
    have kck4 := (k25.cell (p := ⟨g5, o5 + k * 10 + 4, none⟩) (World.block_lt_of_cell? _ _ ck4) (by dsimp only; omega)).trans ck4
    have kck5 := (k25.cell (p := ⟨g5, o5 + k * 10 + 5, none⟩) (World.block_lt_of_cell? _ _ ck5) (by dsimp only; omega)).trans ck5
    have kck6 := (k25.cell (p := ⟨g5, o5 + k * 10 + 6, none⟩) (World.block_lt_of_cell? _ _ ck6) (by dsimp only; omega)).trans ck6
    have kck7 := (k25.cell (p := ⟨g5, o5 + k * 10 + 7, none⟩) (World.block_lt_of_cell? _ _ ck7) (by dsimp only; omega)).trans ck7
    have kck8 := (k25.cell (p := ⟨g5, o5 + k * 10 + 8, none⟩) (World.block_lt_of_cell? _ _ ck8) (by dsimp only; omega)).trans ck8
    have kck9 := (k25.cell (p := ⟨g5, o5 + k * 10 + 9, none⟩) (World.block_lt_of_cell? _ _ ck9) (by dsimp only; omega)).trans ck9
    have kci0 := (k25.cell (p := ⟨g5, o5 + i * 10, none⟩) (World.block_lt_of_cell? _ _ ci0) (by dsimp only; omega)).trans ci0
    have kci1 := (k25.cell (p := ⟨g5, o5 + i * 10 + 1, none⟩) (World.block_lt_of_cell? _ _ ci1) (by dsimp only; omega)).trans ci1
    have kci2 := (k25.cell (p := ⟨g5, o5 + i * 10 + 2, none⟩) (World.block_lt_of_cell? _ _ ci2) (by dsimp only; omega)).trans ci2
    have kci3 := (k25.cell (p := ⟨g5, o5 + i * 10 + 3, none⟩) (World.block_lt_of_cell? _ _ ci3) (by dsimp only; omega)).trans ci3
    have kci4 := (k25.cell (p := ⟨g5, o5 + i * 10 + 4, none⟩) (World.block_lt_of_cell? _ _ ci4) (by dsimp only; omega)).trans ci4
    have kci5 := (k25.cell (p := ⟨g5, o5 + i * 10 + 5, none⟩) (World.block_lt_of_cell? _ _ ci5) (by dsimp only; omega)).trans ci5
    have kci6 := (k25.cell (p := ⟨g5, o5 + i * 10 + 6, none⟩) (World.block_lt_of_cell? _ _ ci6) (by dsimp only; omega)).trans ci6
    have kci7 := (k25.cell (p := ⟨g5, o5 + i * 10 + 7, none⟩) (World.block_lt_of_cell? _ _ ci7) (by dsimp only; omega)).trans ci7
    have kci8 := (k25.cell (p := ⟨g5, o5 + i * 10 + 8, none⟩) (World.block_lt_of_cell? _ _ ci8) (by dsimp only; omega)).trans ci8
    have kci9 := (k25.cell (p := ⟨g5, o5 + i * 10 + 9, none⟩) (World.block_lt_of_cell? _ _ ci9) (by dsimp only; omega)).trans ci9
    have KW25 := hid (KW24.out.then k25 (fun k hk => .inr (by omega)))
    have O25 := hid o25
    have PS25 := hid ((k25.block _ (lt_of_heap PS24.out) (fun e => by omega)).trans PS24.out)
    refine hK _ _ ⟨ksp2, kvp2, kck0, kck1, kck2, kck3, kck4, kck5, kck6, kck7, kck8, kck9, kci0, kci1, kci2, kci3, kci4, kci5, kci6, kci7, kci8, kci9⟩ ?_
    clear hK K k25 o25 KW24 O24 R24 HV24 PS24 sp2 vp2 ck0 ck1 ck2 ck3 ck4 ck5 ck6 ck7 ck8 ck9 ci0 ci1 ci2 ci3 ci4 ci5 ci6 ci7 ci8 ci9
    try simp only [Act.put, List.setIfInBounds_toArray, List.set_cons_zero, List.set_cons_succ]
    repeat (first
      | (refine' wpT_calm (v := _) (by rfl) (fun W hW => ?_) ?_; rotate_left
         · ((try dsimp only at hW); go_simp; first | done | rfl)
         simp only [Act.put, List.setIfInBounds_toArray, List.set_cons_zero, List.set_cons_succ])
      | (refine' wpT_reads (v := _) (by rfl) ?_ ?_; rotate_left
         · (go_simp; first | done | rfl)
         simp only [Act.put, List.setIfInBounds_toArray, List.set_cons_zero, List.set_cons_succ])
      | (refine wpT_skip (by rfl) rfl ?_; simp only [Act.put, List.setIfInBounds_toArray, List.set_cons_zero, List.set_cons_succ])
      | (refine wpT_does (by rfl) (fun K hK => ?_); go_simp; refine hK _ _ ?_ ?_
         · (trivial)
         clear hK K; try simp only [Act.put, List.setIfInBounds_toArray, List.set_cons_zero, List.set_cons_succ])
      | (refine wpT_last (by rfl) (fun K hK => ?_); go_simp; refine hK _ _ ?_; clear hK K)
      | (refine wpT_nil ?_))
    refine wpT_last (by rfl) (fun K hK => ?_)
    refine wp_store_rec (.tmp 162) (.tmp 160) rfl gs m cs k (L.l.set i yk) O25.out (by rw [List.length_set]; exact hkl) rfl yi rfl ?_
    intro w26 o26 k26
    have KW26 := hid (KW25.out.then k26 (fun k hk => .inr (by omega)))
    have O26 := hid o26
    have PS26 := hid ((k26.block _ (lt_of_heap PS25.out) (fun e => by omega)).trans PS25.out)
    refine hK _ _ ?_
    clear hK K k26 o26 KW25 O25 PS25 ksp2 kvp2 kck0 kck1 kck2 kck3 kck4 kck5 kck6 kck7 kck8 kck9 kci0 kci1 kci2 kci3 kci4 kci5 kci6 kci7 kci8 kci9
    try simp only [Act.put, List.setIfInBounds_toArray, List.set_cons_zero, List.set_cons_succ]
    obtain ⟨M2, hM2⟩ : ∃ M, (L.l.set i yk).set k yi = M := ⟨_, rfl⟩
    rw [hM2] at O26
    obtain ⟨vr3, hvr3⟩ : ∃ vr, ver dd L.base M2 L.head = vr := ⟨_, rfl⟩
    obtain ⟨eb, heb⟩ : ∃ eb, decide (i = k) = eb := ⟨_, rfl⟩
    have hvb3 : (vr3 == 0) = eb := by
      have hml : M2.length ≤ 16 := by rw [← hM2, List.length_set, List.length_set, HM.out]; omega
      rw [← hvr3, ← heb]
      by_cases hik : i = k
      · have e2 : M2 = L.l := by rw [← hM2, ← HYK.out, ← HYI.out]; subst hik; exact swap_same _ _ _
        have e3 : seqsOk dd 0 M2 = true := by rw [e2]; exact SOK.out
        rw [ver_ok VOK.out M2 hml e3, decide_eq_true hik, if_neg (fun k => k (by rw [e2]; exact chain_all AA.out))]; rfl
      · have e3 : seqsOk dd 0 M2 = false := by rw [← hM2, ← HYK.out, ← HYI.out, ← HDD.out]; exact seqs_swap AA.out HH.out (by have := HLE.out; omega) i k hil hkl hik
        rw [ver_bad VOK.out M2 hml e3, decide_eq_false hik]; rfl
    have heq3 : ((i : Int) == (k : Int)) = eb := by
      rw [← heb, Bool.eq_iff_iff]; simp only [beq_iff_eq, decide_eq_true_eq]; omega
    have HVR3 := hid hvr3
    clear hvr3 heb hM2
    go_wp2_with fail
    refine (aawake_any _).mono ?_
    rintro _ w27 ⟨rfl, k27⟩
    have KW27 := hid (KW26.out.trans k27)
    have V3 := hid (VF.out w27 _ _ _ M2 (O26.out.keep k27 (fun _ _ h => h)).reads)
    rw [HVR3.out] at V3
    have PS27 := (k27.block _ (lt_of_heap PS26.out) (fun h => h)).trans PS26.out
    have t0 : w27.cell? ⟨ps, 0, none⟩ = some (.int .i64 dd) := by rw [cell_of_row _ _ 0 _ _ _ PS27]; rfl
    have t1 : w27.cell? ⟨ps, 1, none⟩ = some (.string B) := by rw [cell_of_row _ _ 1 _ _ _ PS27]; rfl
    have t2 : w27.cell? ⟨ps, 2, none⟩ = some (.slice (some ⟨gs, 0, none⟩) m cs) := by rw [cell_of_row _ _ 2 _ _ _ PS27]; rfl
    have t3 : w27.cell? ⟨ps, 3, none⟩ = some (.string E) := by rw [cell_of_row _ _ 3 _ _ _ PS27]; rfl
    clear k27 KW26 O26 PS26 PS27
    go_wp2_with fail
    refine V3.out.mono ?_
    rintro _ w28 ⟨rfl, k28⟩
    have KW28 := hid (KW27.out.trans k28)
    clear k28 KW27 V3
    go_wp2_with fail
    go_ret
    exact ⟨by simp, KW28.out.below (fun _ h => h.elim) (Nat.le_refl _)⟩
  · clear him1
    have him1 : (i : Int) + 1 ≤ (m : Int) := by omega
    have hmz2 : 1 ≤ m := by omega
    obtain rfl : m = i + 1 := by omega
    have hlt1 : ¬ (i : Int) + 1 < (i : Int) + 1 := by omega
    have heq1 : ((i : Int) + 1 == (i : Int) + 1) = true := by simp
    have rd : ReadR w18 (.slice (some ⟨g5, o5, none⟩) 0 0) [] := .inl ⟨_, _, rfl, rfl⟩
    have SRC2 := hid rd.src
    clear rd
    repeat (first
      | (refine' wpT_calm (v := _) (by rfl) (fun W hW => ?_) ?_; rotate_left
         · ((try dsimp only at hW); go_simp; first | done | rfl)
         simp only [Act.put, List.setIfInBounds_toArray, List.set_cons_zero, List.set_cons_succ])
      | (refine' wpT_reads (v := _) (by rfl) ?_ ?_; rotate_left
         · (go_simp; first | done | rfl)
         simp only [Act.put, List.setIfInBounds_toArray, List.set_cons_zero, List.set_cons_succ])
      | (refine wpT_skip (by rfl) rfl ?_; simp only [Act.put, List.setIfInBounds_toArray, List.set_cons_zero, List.set_cons_succ])
      | (refine wpT_does (by rfl) (fun K hK => ?_); go_simp; refine hK _ _ ?_ ?_
         · (trivial)
         clear hK K; try simp only [Act.put, List.setIfInBounds_toArray, List.set_cons_zero, List.set_cons_succ])
      | (refine wpT_last (by rfl) (fun K hK => ?_); go_simp; refine hK _ _ ?_; clear hK K)
      | (refine wpT_nil ?_))
    refine wpT_does (by rfl) (fun K hK => ?_)
    refine wp_append_recs _ (.tmp 98) (.tmp 103) rfl (.slice a98 i c98) (L.l.take i) rfl O98.out _ [].length [] rfl SRC2.out (by rw [HTI.out]; show i + 0 ≤ 1000000; omega) ?_
    intro v104 w19 o104 f104 k104
    obtain ⟨GL, hGL⟩ : ∃ GL, L.l.take i ++ [] = GL := ⟨_, rfl⟩
    have o104 : OwnR w19 v104 GL := by rw [← hGL]; exact o104
    have hgl : GL.length = i := by rw [← hGL, List.length_append, HTI.out]; rfl
    obtain ⟨ag, cg, hvg⟩ := o104.form
    rw [hgl] at hvg
    subst hvg
    have K19 : Keep (fun _ => False) D w19 := HK18.out.then k104 (fun k hk => .inr (F98.out k hk))
    have FG : Hid (∀ k, (Value.slice ag i cg).ownBlock = some k → D.heap.size ≤ k) := hid (fun k hk => (f104 k hk).elim (F98.out k) (fun e => Nat.le_trans HK18.out.size e))
    have v2f := (K19.cell (p := ⟨w5.heap.size, 2, none⟩) (lt_of_heap HVD.out) (fun h => h)).trans (show D.cell? ⟨w5.heap.size, 2, none⟩ = some (.slice (some ⟨g5, o5, none⟩) (i + 1) (i + 1)) from by rw [cell_of_row _ _ 2 _ _ _ HVD.out]; rfl)
    have PG19 := (K19.block _ (lt_of_heap PGD.out) (fun h => h)).trans PGD.out
    have g2c : w19.cell? ⟨pg, 2, none⟩ = some (.slice (some ⟨g5, o5, none⟩) (i + 1) (i + 1)) := by rw [cell_of_row _ _ 2 _ _ _ PG19]; rfl
    have fg2 : w19.frozen? ⟨pg, 2, none⟩ = false := frozen_of_row _ _ 2 _ _ PG19
    have lpd : pg < D.heap.size := lt_of_heap PGD.out
    have K20 : Keep (fun k => k = pg) w19 (w19.setCell ⟨pg, 2, none⟩ (.slice ag i cg)) := (Keep.refl _ _).setOwn _
    have OG := hid (o104.keep K20 (fun k hk e => by have := FG.out k hk; omega))
    have PG20 := hid (heap_setCell_same _ _ 2 _ _ (.slice ag i cg) PG19)
    have KWG := hid ((KWD.out.trans K19).setCell (p := ⟨pg, 2, none⟩) (.inr lpg.out) (.slice ag i cg))
    have KG := (K19.mono (G := fun k => k = pg) (fun _ _ h => h.elim)).trans K20
    have RG := hid (RD.out.keep KG (fun k hk e => by have : g5 = k := Option.some.inj hk; have := HG5.out; omega))
    have HVG := hid ((KG.block _ (lt_of_heap HVD.out) (fun e => by omega)).trans HVD.out)
    have HGL := hid hGL
    have HGN := hid hgl
    refine hK _ _ v2f ?_
    clear hK K o104 f104 k104 K19 K20 PG19 KG hGL hgl SRC2 v2e v2f
    try simp only [Act.put, List.setIfInBounds_toArray, List.set_cons_zero, List.set_cons_succ]
    have gcell := g2c
    repeat (first
      | (refine' wpT_calm (v := _) (by rfl) (fun W hW => ?_) ?_; rotate_left
         · ((try dsimp only at hW); go_simp; first | done | rfl)
         simp only [Act.put, List.setIfInBounds_toArray, List.set_cons_zero, List.set_cons_succ])
      | (refine' wpT_reads (v := _) (by rfl) ?_ ?_; rotate_left
         · (go_simp; first | done | rfl)
         simp only [Act.put, List.setIfInBounds_toArray, List.set_cons_zero, List.set_cons_succ])
      | (refine wpT_skip (by rfl) rfl ?_; simp only [Act.put, List.setIfInBounds_toArray, List.set_cons_zero, List.set_cons_succ])
      | (refine wpT_does (by rfl) (fun K hK => ?_); go_simp; refine hK _ _ ?_ ?_
         · (trivial)
         clear hK K; try simp only [Act.put, List.setIfInBounds_toArray, List.set_cons_zero, List.set_cons_succ])
      | (refine wpT_last (by rfl) (fun K hK => ?_); go_simp; refine hK _ _ ?_; clear hK K)
      | (refine wpT_nil ?_))
    clear gcell g2c fg2
    obtain ⟨W20, hW20⟩ : ∃ W, w19.setCell ⟨pg, 2, none⟩ (.slice ag i cg) = W := ⟨_, rfl⟩
    rw [hW20] at OG PG20 KWG RG HVG ⊢
    clear hW20 O98 F98 FG HK18 RD HVD PGD KWD lpd HK0'
    have KWH := hid KWG.out.drew
    have OH := hid (OG.out.keep ((Keep.refl (fun _ => False) W20).drew) (fun _ _ h => h))
    have RH := hid (RG.out.keep ((Keep.refl (fun _ => False) W20).drew) (fun _ _ h => h))
    have HVH : Hid (W20.drew.heap[w5.heap.size]? = some (.cells #[.int .i64 dd, .string B, .slice (some ⟨g5, o5, none⟩) (i + 1) (i + 1), .string E] 45 (0, 0))) := hid HVG.out
    have PGH : Hid (W20.drew.heap[pg]? = some (.cells #[.int .i64 dd, .string B, .slice ag i cg, .string E] 45 (0, 0))) := hid PG20.out
    clear KWG OG RG HVG PG20
    have a1 : W20.drew.cell? ⟨w5.heap.size, 1, none⟩ = some (.string B) := by rw [cell_of_row _ _ 1 _ _ _ HVH.out]; rfl
    have a2 : W20.drew.cell? ⟨w5.heap.size, 2, none⟩ = some (.slice (some ⟨g5, o5, none⟩) (i + 1) (i + 1)) := by rw [cell_of_row _ _ 2 _ _ _ HVH.out]; rfl
    have a3 : W20.drew.cell? ⟨w5.heap.size, 3, none⟩ = some (.string E) := by rw [cell_of_row _ _ 3 _ _ _ HVH.out]; rfl
    have b0 : W20.drew.cell? ⟨pg, 0, none⟩ = some (.int .i64 dd) := by rw [cell_of_row _ _ 0 _ _ _ PGH.out]; rfl
    have b1 : W20.drew.cell? ⟨pg, 1, none⟩ = some (.string B) := by rw [cell_of_row _ _ 1 _ _ _ PGH.out]; rfl
    have b2 : W20.drew.cell? ⟨pg, 2, none⟩ = some (.slice ag i cg) := by rw [cell_of_row _ _ 2 _ _ _ PGH.out]; rfl
    have b3 : W20.drew.cell? ⟨pg, 3, none⟩ = some (.string E) := by rw [cell_of_row _ _ 3 _ _ _ PGH.out]; rfl
    go_wp2_with fail
    refine wp_region_text [0,0,0,0,0,0,0,0,2,0,0,0,0,0,0,0,0,0,0,0,2,0,0,0,0,0,2,0,0,0,0,0,0] (fun W => W.cell? ⟨w5.heap.size, 1, none⟩ = some (.string B) ∧ W.cell? ⟨w5.heap.size, 2, none⟩ = some (.slice (some ⟨g5, o5, none⟩) (i + 1) (i + 1)) ∧ W.cell? ⟨w5.heap.size, 3, none⟩ = some (.string E) ∧ W.cell? ⟨pg, 0, none⟩ = some (.int .i64 dd) ∧ W.cell? ⟨pg, 1, none⟩ = some (.string B) ∧ W.cell? ⟨pg, 2, none⟩ = some (.slice ag i cg) ∧ W.cell? ⟨pg, 3, none⟩ = some (.string E)) (by kernel_rfl) (by kernel_rfl) ⟨a1, a2, a3, b0, b1, b2, b3⟩ ?_
    obtain ⟨D2, hD2⟩ : ∃ D, W20.drew = D := ⟨_, rfl⟩
    rw [hD2] at KWH OH RH HVH PGH a1 a2 a3 b0 b1 b2 b3 ⊢
    clear hD2
    repeat (first
      | (refine' wpT_calm (v := _) (by rfl) (fun W hW => ?_) ?_; rotate_left
         · ((try dsimp only at hW); go_simp; first | done | rfl)
         simp only [Act.put, List.setIfInBounds_toArray, List.set_cons_zero, List.set_cons_succ])
      | (refine' wpT_reads (v := _) (by rfl) ?_ ?_; rotate_left
         · (go_simp; first | done | rfl)
         simp only [Act.put, List.setIfInBounds_toArray, List.set_cons_zero, List.set_cons_succ])
      | (refine wpT_skip (by rfl) rfl ?_; simp only [Act.put, List.setIfInBounds_toArray, List.set_cons_zero, List.set_cons_succ])
      | (refine wpT_does (by rfl) (fun K hK => ?_); go_simp; refine hK _ _ ?_ ?_
         · (trivial)
         clear hK K; try simp only [Act.put, List.setIfInBounds_toArray, List.set_cons_zero, List.set_cons_succ])
      | (refine wpT_last (by rfl) (fun K hK => ?_); go_simp; refine hK _ _ ?_; clear hK K)
      | (refine wpT_nil ?_))
    obtain ⟨sb2, hsb2⟩ : ∃ sb, decide (chns L.base GL = L.head) = sb := ⟨_, rfl⟩
    obtain ⟨vr2, hvr2⟩ : ∃ vr, ver dd L.base GL L.head = vr := ⟨_, rfl⟩
    have EQ2 := EQ.out GL
    obtain ⟨S2, hS2⟩ : ∃ S, bya (chns L.base GL) = S := ⟨_, rfl⟩
    rw [hS2, hsb2] at EQ2
    have hvb2 : (vr2 == 0) = sb2 := by
      have hs : seqsOk dd 0 GL = true := by rw [← HGL.out, List.append_nil]; exact seqs_take i SOK.out
      rw [← hvr2, ver_ok VOK.out GL (by rw [HGN.out]; omega) hs]
      by_cases hc : chns L.base GL = L.head
      · rw [if_neg (fun k => k hc), ← hsb2, decide_eq_true hc]; rfl
      · rw [if_pos hc, ← hsb2, decide_eq_false hc]; rfl
    have VG := hid (VF.out D2 _ _ _ GL OH.out.reads)
    rw [hvr2] at VG
    clear hvr2 hsb2
    refine wpT_does (by rfl) (fun K hK => ?_)
    go_simp
    refine VG.out.mono ?_
    rintro _ w20b ⟨rfl, k20b⟩
    have ca1 := (k20b.cell (p := ⟨w5.heap.size, 1, none⟩) (World.block_lt_of_cell? _ _ a1) (fun h => h)).trans a1
    have ca2 := (k20b.cell (p := ⟨w5.heap.size, 2, none⟩) (World.block_lt_of_cell? _ _ a2) (fun h => h)).trans a2
    have ca3 := (k20b.cell (p := ⟨w5.heap.size, 3, none⟩) (World.block_lt_of_cell? _ _ a3) (fun h => h)).trans a3
    have cb0 := (k20b.cell (p := ⟨pg, 0, none⟩) (World.block_lt_of_cell? _ _ b0) (fun h => h)).trans b0
    have cb1 := (k20b.cell (p := ⟨pg, 1, none⟩) (World.block_lt_of_cell? _ _ b1) (fun h => h)).trans b1
    have cb2 := (k20b.cell (p := ⟨pg, 2, none⟩) (World.block_lt_of_cell? _ _ b2) (fun h => h)).trans b2
    have cb3 := (k20b.cell (p := ⟨pg, 3, none⟩) (World.block_lt_of_cell? _ _ b3) (fun h => h)).trans b3
    have KWI := hid (KWH.out.trans k20b)
    have RI := hid (RH.out.keep k20b (fun _ _ h => h))
    have HVI := hid ((k20b.block _ (lt_of_heap HVH.out) (fun h => h)).trans HVH.out)
    have OI := hid (OH.out.keep k20b (fun _ _ h => h))
    refine hK _ _ ⟨ca1, ca2, ca3, cb0, cb1, cb2, cb3⟩ ?_
    clear hK K k20b a1 a2 a3 b0 b1 b2 b3
    try simp only [Act.put, List.setIfInBounds_toArray, List.set_cons_zero, List.set_cons_succ]
    repeat (first
      | (refine' wpT_calm (v := _) (by rfl) (fun W hW => ?_) ?_; rotate_left
         · ((try dsimp only at hW); go_simp; first | done | rfl)
         simp only [Act.put, List.setIfInBounds_toArray, List.set_cons_zero, List.set_cons_succ])
      | (refine' wpT_reads (v := _) (by rfl) ?_ ?_; rotate_left
         · (go_simp; first | done | rfl)
         simp only [Act.put, List.setIfInBounds_toArray, List.set_cons_zero, List.set_cons_succ])
      | (refine wpT_skip (by rfl) rfl ?_; simp only [Act.put, List.setIfInBounds_toArray, List.set_cons_zero, List.set_cons_succ])
      | (refine wpT_does (by rfl) (fun K hK => ?_); go_simp; refine hK _ _ ?_ ?_
         · (trivial)
         clear hK K; try simp only [Act.put, List.setIfInBounds_toArray, List.set_cons_zero, List.set_cons_succ])
      | (refine wpT_last (by rfl) (fun K hK => ?_); go_simp; refine hK _ _ ?_; clear hK K)
      | (refine wpT_nil ?_))
    have CG := hid (CF.out w20b _ _ _ GL (by rw [HGN.out]; omega) OI.out.reads)
    rw [hS2] at CG
    clear hS2
    refine wpT_does (by rfl) (fun K hK => ?_)
    go_simp
    refine CG.out.mono ?_
    rintro _ w21 ⟨rfl, k21⟩
    have dca1 := (k21.cell (p := ⟨w5.heap.size, 1, none⟩) (World.block_lt_of_cell? _ _ ca1) (fun h => h)).trans ca1
    have dca2 := (k21.cell (p := ⟨w5.heap.size, 2, none⟩) (World.block_lt_of_cell? _ _ ca2) (fun h => h)).trans ca2
    have dca3 := (k21.cell (p := ⟨w5.heap.size, 3, none⟩) (World.block_lt_of_cell? _ _ ca3) (fun h => h)).trans ca3
    have dcb0 := (k21.cell (p := ⟨pg, 0, none⟩) (World.block_lt_of_cell? _ _ cb0) (fun h => h)).trans cb0
    have dcb1 := (k21.cell (p := ⟨pg, 1, none⟩) (World.block_lt_of_cell? _ _ cb1) (fun h => h)).trans cb1
    have dcb2 := (k21.cell (p := ⟨pg, 2, none⟩) (World.block_lt_of_cell? _ _ cb2) (fun h => h)).trans cb2
    have dcb3 := (k21.cell (p := ⟨pg, 3, none⟩) (World.block_lt_of_cell? _ _ cb3) (fun h => h)).trans cb3
    have KWJ := hid (KWI.out.trans k21)
    have RJ := hid (RI.out.keep k21 (fun _ _ h => h))
    have HVJ := hid ((k21.block _ (lt_of_heap HVI.out) (fun h => h)).trans HVI.out)
    refine hK _ _ ⟨dca1, dca2, dca3, dcb0, dcb1, dcb2, dcb3⟩ ?_
    clear hK K k21 ca1 ca2 ca3 cb0 cb1 cb2 cb3
    try simp only [Act.put, List.setIfInBounds_toArray, List.set_cons_zero, List.set_cons_succ]
    repeat (first
      | (refine' wpT_calm (v := _) (by rfl) (fun W hW => ?_) ?_; rotate_left
         · ((try dsimp only at hW); go_simp; first | done | rfl)
         simp only [Act.put, List.setIfInBounds_toArray, List.set_cons_zero, List.set_cons_succ])
      | (refine' wpT_reads (v := _) (by rfl) ?_ ?_; rotate_left
         · (go_simp; first | done | rfl)
         simp only [Act.put, List.setIfInBounds_toArray, List.set_cons_zero, List.set_cons_succ])
      | (refine wpT_skip (by rfl) rfl ?_; simp only [Act.put, List.setIfInBounds_toArray, List.set_cons_zero, List.set_cons_succ])
      | (refine wpT_does (by rfl) (fun K hK => ?_); go_simp; refine hK _ _ ?_ ?_
         · (trivial)
         clear hK K; try simp only [Act.put, List.setIfInBounds_toArray, List.set_cons_zero, List.set_cons_succ])
      | (refine wpT_last (by rfl) (fun K hK => ?_); go_simp; refine hK _ _ ?_; clear hK K)
      | (refine wpT_nil ?_))
    clear dca1 dca2 dca3 dcb0 dcb1 dcb2 dcb3
    have HKI : Hid (k < (i + 1)) := hid hk2
    have hkl : k < L.l.length := by rw [HM.out]; exact hk2
    have hkm : (k : Int) < (i : Int) + 1 := by omega
    have him9 : (i : Int) < (i : Int) + 1 := by omega
    have q0 : w21.cell? ⟨w5.heap.size, 0, none⟩ = some (.int .i64 dd) := by rw [cell_of_row _ _ 0 _ _ _ HVJ.out]; rfl
    have q1' : w21.cell? ⟨w5.heap.size, 1, none⟩ = some (.string B) := by rw [cell_of_row _ _ 1 _ _ _ HVJ.out]; rfl
    have q2' : w21.cell? ⟨w5.heap.size, 2, none⟩ = some (.slice (some ⟨g5, o5, none⟩) (i + 1) (i + 1)) := by rw [cell_of_row _ _ 2 _ _ _ HVJ.out]; rfl
    have q3 : w21.cell? ⟨w5.heap.size, 3, none⟩ = some (.string E) := by rw [cell_of_row _ _ 3 _ _ _ HVJ.out]; rfl
    have lv21 : w5.heap.size < w21.heap.size := lt_of_heap HVJ.out
    have KA : Keep (fun _ => False) w21 ((w21.alloc (.cells #[.int .i64 dd, .string B, .slice (some ⟨g5, o5, none⟩) (i + 1) (i + 1), .string E] 45)).alloc (.cells #[] 42)) := ((Keep.refl _ _).alloc _).alloc _
    have qa2 := (KA.cell (p := ⟨w5.heap.size, 2, none⟩) lv21 (fun h => h)).trans q2'
    have SA : ((w21.alloc (.cells #[.int .i64 dd, .string B, .slice (some ⟨g5, o5, none⟩) (i + 1) (i + 1), .string E] 45)).alloc (.cells #[] 42)).heap.size = w21.heap.size + 2 := by rw [World.size_alloc, World.size_alloc]
    have SB : (w21.alloc (.cells #[.int .i64 dd, .string B, .slice (some ⟨g5, o5, none⟩) (i + 1) (i + 1), .string E] 45)).heap.size = w21.heap.size + 1 := World.size_alloc _ _
    have rowS : ((w21.alloc (.cells #[.int .i64 dd, .string B, .slice (some ⟨g5, o5, none⟩) (i + 1) (i + 1), .string E] 45)).alloc (.cells #[] 42)).heap[w21.heap.size]? = some (.cells #[.int .i64 dd, .string B, .slice (some ⟨g5, o5, none⟩) (i + 1) (i + 1), .string E] 45 (0, 0)) := by
      rw [heap_alloc_old _ _ (by rw [World.size_alloc]; exact Nat.lt_succ_self _)]
      exact heap_alloc_new w21 _
    have HS := hid ((RJ.out.keep KA (fun _ _ h => h)).src)
    have HSA := hid SA
    have HKA := hid KA
    have HPS := hid rowS
    have mr := made_rowR (w21.alloc (.cells #[.int .i64 dd, .string B, .slice (some ⟨g5, o5, none⟩) (i + 1) (i + 1), .string E] 45))
    rw [SB] at mr
    have MR := hid mr
    clear KA SA SB rowS mr
    go_wp2_with (at_builtin; refine wpList_plain rfl (fun K hK => wp_append_recs _ (.tmp 140) (.tmp 142) rfl _ [] rfl MR.out _ L.l.length L.l rfl HS.out (by rw [HM.out]; show 0 + (i + 1) ≤ 1000000; omega) ?_))
    intro v22 w22 o22 f22 k22
    have o22 : OwnR w22 v22 L.l := o22
    obtain ⟨gs, cs, hv22⟩ := o22.block (by rw [HM.out]; omega)
    rw [HM.out] at hv22
    subst hv22
    have hgs : w21.heap.size + 1 ≤ gs := (f22 gs rfl).elim (fun e => Nat.le_of_eq (Option.some.inj e)) (fun e => by omega)
    have k22b : Keep (fun _ => False) w21 w22 := HKA.out.then k22 (fun k hk => .inr (by have : w21.heap.size + 1 = k := Option.some.inj hk; omega))
    have rS := (k22.block _ (by rw [HSA.out]; omega) (fun e => by have : w21.heap.size + 1 = w21.heap.size := Option.some.inj e; omega)).trans HPS.out
    obtain ⟨ps, hps⟩ : ∃ ps, w21.heap.size = ps := ⟨_, rfl⟩
    have hg5s : g5 < ps := by rw [← hps]; exact World.block_lt_of_cell? _ _ (cells_at RJ.out i hil _ rfl 0 _ rfl)
    have hwps : w.heap.size ≤ ps := by rw [← hps]; exact KWJ.out.size
    rw [hps] at hgs rS lv21 ⊢
    have HP2 := hid hps
    have s2c : w22.cell? ⟨ps, 2, none⟩ = some (.slice (some ⟨g5, o5, none⟩) (i + 1) (i + 1)) := by rw [cell_of_row _ _ 2 _ _ _ rS]; rfl
    have fs2 : w22.frozen? ⟨ps, 2, none⟩ = false := frozen_of_row _ _ 2 _ _ rS
    have K23 : Keep (fun k => k = ps) w22 (w22.setCell ⟨ps, 2, none⟩ (.slice (some ⟨gs, 0, none⟩) (i + 1) cs)) := (Keep.refl _ _).setOwn _
    have O23 := hid (o22.keep K23 (fun k hk e => by have : gs = k := Option.some.inj hk; omega))
    have PS23 := hid (heap_setCell_same _ _ 2 _ _ (.slice (some ⟨gs, 0, none⟩) (i + 1) cs) rS)
    have KW23 := hid ((KWJ.out.trans k22b).setCell (p := ⟨ps, 2, none⟩) (.inr hwps) (.slice (some ⟨gs, 0, none⟩) (i + 1) cs))
    have KJ := (k22b.mono (G := fun k => k = ps) (fun _ _ h => h.elim)).trans K23
    have R23 := hid (RJ.out.keep KJ (fun k hk e => by have : g5 = k := Option.some.inj hk; omega))
    have HV23 := hid ((KJ.block _ (lt_of_heap HVJ.out) (fun e => by omega)).trans HVJ.out)
    refine hK _ _ ?_
    clear hK K o22 f22 k22 k22b rS K23 KJ hps qa2 q0 q1' q2' q3 HS HSA HKA HPS MR KWJ RJ HVJ
    go_wp2_with fail
    obtain ⟨W23, hW23⟩ : ∃ W, (w22.setCell ⟨ps, 2, none⟩ (.slice (some ⟨gs, 0, none⟩) (i + 1) cs)) = W := ⟨_, rfl⟩
    rw [hW23] at O23 PS23 KW23 R23 HV23 ⊢
    clear hW23 s2c fs2
    have KW24 := hid KW23.out.drew
    have O24 := hid (O23.out.keep ((Keep.refl (fun _ => False) W23).drew) (fun _ _ h => h))
    have R24 := hid (R23.out.keep ((Keep.refl (fun _ => False) W23).drew) (fun _ _ h => h))
    have HV24 : Hid (W23.drew.heap[w5.heap.size]? = some (.cells #[.int .i64 dd, .string B, .slice (some ⟨g5, o5, none⟩) (i + 1) (i + 1), .string E] 45 (0, 0))) := hid HV23.out
    have PS24 : Hid (W23.drew.heap[ps]? = some (.cells #[.int .i64 dd, .string B, .slice (some ⟨gs, 0, none⟩) (i + 1) cs, .string E] 45 (0, 0))) := hid PS23.out
    clear KW23 O23 R23 HV23 PS23
    obtain ⟨yk, hyk⟩ : ∃ y, L.l[k]'hkl = y := ⟨_, rfl⟩
    obtain ⟨yi, hyi⟩ : ∃ y, L.l[i]'hil = y := ⟨_, rfl⟩
    have ck := cells_at R24.out k hkl yk hyk
    have ci := cells_at R24.out i hil yi hyi
    have ck0 := ck 0 (.int .i64 yk.s) rfl
    have ci0 := ci 0 (.int .i64 yi.s) rfl
    have ck1 := ck 1 (.int .i64 yk.t) rfl
    have ci1 := ci 1 (.int .i64 yi.t) rfl
    have ck2 := ck 2 (.int .i64 yk.c) rfl
    have ci2 := ci 2 (.int .i64 yi.c) rfl
    have ck3 := ck 3 (.int .i64 yk.o) rfl
    have ci3 := ci 3 (.int .i64 yi.o) rfl
    have ck4 := ck 4 (.int .i64 yk.e) rfl
    have ci4 := ci 4 (.int .i64 yi.e) rfl
    have ck5 := ck 5 (.int .i64 yk.n) rfl
    have ci5 := ci 5 (.int .i64 yi.n) rfl
    have ck6 := ck 6 (.int .i64 yk.m) rfl
    have ci6 := ci 6 (.int .i64 yi.m) rfl
    have ck7 := ck 7 (.int .i64 yk.a) rfl
    have ci7 := ci 7 (.int .i64 yi.a) rfl
    have ck8 := ck 8 (.int .i64 yk.b) rfl
    have ci8 := ci 8 (.int .i64 yi.b) rfl
    have ck9 := ck 9 (.int .i64 yk.d) rfl
    have ci9 := ci 9 (.int .i64 yi.d) rfl
    rw [Nat.add_zero] at ck0 ci0
    have sp2 : W23.drew.cell? ⟨ps, 2, none⟩ = some (.slice (some ⟨gs, 0, none⟩) (i + 1) cs) := by rw [cell_of_row _ _ 2 _ _ _ PS24.out]; rfl
    have vp2 : W23.drew.cell? ⟨w5.heap.size, 2, none⟩ = some (.slice (some ⟨g5, o5, none⟩) (i + 1) (i + 1)) := by rw [cell_of_row _ _ 2 _ _ _ HV24.out]; rfl
    have HYK := hid hyk
    have HYI := hid hyi
    clear ck ci hyk hyi
    refine wp_region_text [0,0,0,0,0,0,0,0,0,0,0,0,0,0,0,0,0,2,0,3] (fun W => W.cell? ⟨ps, 2, none⟩ = some (.slice (some ⟨gs, 0, none⟩) (i + 1) cs) ∧ W.cell? ⟨w5.heap.size, 2, none⟩ = some (.slice (some ⟨g5, o5, none⟩) (i + 1) (i + 1)) ∧ W.cell? ⟨g5, o5 + k * 10, none⟩ = some (.int .i64 yk.s) ∧ W.cell? ⟨g5, o5 + k * 10 + 1, none⟩ = some (.int .i64 yk.t) ∧ W.cell? ⟨g5, o5 + k * 10 + 2, none⟩ = some (.int .i64 yk.c) ∧ W.cell? ⟨g5, o5 + k * 10 + 3, none⟩ = some (.int .i64 yk.o) ∧ W.cell? ⟨g5, o5 + k * 10 + 4, none⟩ = some (.int .i64 yk.e) ∧ W.cell? ⟨g5, o5 + k * 10 + 5, none⟩ = some (.int .i64 yk.n) ∧ W.cell? ⟨g5, o5 + k * 10 + 6, none⟩ = some (.int .i64 yk.m) ∧ W.cell? ⟨g5, o5 + k * 10 + 7, none⟩ = some (.int .i64 yk.a) ∧ W.cell? ⟨g5, o5 + k * 10 + 8, none⟩ = some (.int .i64 yk.b) ∧ W.cell? ⟨g5, o5 + k * 10 + 9, none⟩ = some (.int .i64 yk.d) ∧ W.cell? ⟨g5, o5 + i * 10, none⟩ = some (.int .i64 yi.s) ∧ W.cell? ⟨g5, o5 + i * 10 + 1, none⟩ = some (.int .i64 yi.t) ∧ W.cell? ⟨g5, o5 + i * 10 + 2, none⟩ = some (.int .i64 yi.c) ∧ W.cell? ⟨g5, o5 + i * 10 + 3, none⟩ = some (.int .i64 yi.o) ∧ W.cell? ⟨g5, o5 + i * 10 + 4, none⟩ = some (.int .i64 yi.e) ∧ W.cell? ⟨g5, o5 + i * 10 + 5, none⟩ = some (.int .i64 yi.n) ∧ W.cell? ⟨g5, o5 + i * 10 + 6, none⟩ = some (.int .i64 yi.m) ∧ W.cell? ⟨g5, o5 + i * 10 + 7, none⟩ = some (.int .i64 yi.a) ∧ W.cell? ⟨g5, o5 + i * 10 + 8, none⟩ = some (.int .i64 yi.b) ∧ W.cell? ⟨g5, o5 + i * 10 + 9, none⟩ = some (.int .i64 yi.d)) (by kernel_rfl) (by kernel_rfl) ⟨sp2, vp2, ck0, ck1, ck2, ck3, ck4, ck5, ck6, ck7, ck8, ck9, ci0, ci1, ci2, ci3, ci4, ci5, ci6, ci7, ci8, ci9⟩ ?_
    obtain ⟨D3, hD3⟩ : ∃ D, W23.drew = D := ⟨_, rfl⟩
    rw [hD3] at KW24 O24 R24 HV24 PS24 sp2 vp2 ck0 ck1 ck2 ck3 ck4 ck5 ck6 ck7 ck8 ck9 ci0 ci1 ci2 ci3 ci4 ci5 ci6 ci7 ci8 ci9 ⊢
    clear hD3
    repeat (first
      | (refine' wpT_calm (v := _) (by rfl) (fun W hW => ?_) ?_; rotate_left
         · ((try dsimp only at hW); go_simp; first | done | rfl)
         simp only [Act.put, List.setIfInBounds_toArray, List.set_cons_zero, List.set_cons_succ])
      | (refine' wpT_reads (v := _) (by rfl) ?_ ?_; rotate_left
         · (go_simp; first | done | rfl)
         simp only [Act.put, List.setIfInBounds_toArray, List.set_cons_zero, List.set_cons_succ])
      | (refine wpT_skip (by rfl) rfl ?_; simp only [Act.put, List.setIfInBounds_toArray, List.set_cons_zero, List.set_cons_succ])
      | (refine wpT_does (by rfl) (fun K hK => ?_); go_simp; refine hK _ _ ?_ ?_
         · (trivial)
         clear hK K; try simp only [Act.put, List.setIfInBounds_toArray, List.set_cons_zero, List.set_cons_succ])
      | (refine wpT_last (by rfl) (fun K hK => ?_); go_simp; refine hK _ _ ?_; clear hK K)
      | (refine wpT_nil ?_))
    refine wpT_does (by rfl) (fun K hK => ?_)
    refine wp_store_rec (.tmp 161) (.tmp 155) rfl gs (i + 1) cs i L.l O24.out hil rfl yk rfl ?_
    intro w25 o25 k25
    have ksp2 := (k25.cell (p := ⟨ps, 2, none⟩) (World.block_lt_of_cell? _ _ sp2) (by dsimp only; omega)).trans sp2
    have kvp2 := (k25.cell (p := ⟨w5.heap.size, 2, none⟩) (World.block_lt_of_cell? _ _ vp2) (by dsimp only; omega)).trans vp2
    have kck0 := (k25.cell (p := ⟨g5, o5 + k * 10, none⟩) (World.block_lt_of_cell? _ _ ck0) (by dsimp only; omega)).trans ck0
    have kck1 := (k25.cell (p := ⟨g5, o5 + k * 10 + 1, none⟩) (World.block_lt_of_cell? _ _ ck1) (by dsimp only; omega)).trans ck1
    have kck2 := (k25.cell (p := ⟨g5, o5 + k * 10 + 2, none⟩) (World.block_lt_of_cell? _ _ ck2) (by dsimp only; omega)).trans ck2
    have kck3 := (k25.cell (p := ⟨g5, o5 + k * 10 + 3, none⟩) (World.block_lt_of_cell? _ _ ck3) (by dsimp only; omega)).trans ck3
    have kck4 := (k25.cell (p := ⟨g5, o5 + k * 10 + 4, none⟩) (World.block_lt_of_cell? _ _ ck4) (by dsimp only; omega)).trans ck4
    have kck5 := (k25.cell (p := ⟨g5, o5 + k * 10 + 5, none⟩) (World.block_lt_of_cell? _ _ ck5) (by dsimp only; omega)).trans ck5
    have kck6 := (k25.cell (p := ⟨g5, o5 + k * 10 + 6, none⟩) (World.block_lt_of_cell? _ _ ck6) (by dsimp only; omega)).trans ck6
    have kck7 := (k25.cell (p := ⟨g5, o5 + k * 10 + 7, none⟩) (World.block_lt_of_cell? _ _ ck7) (by dsimp only; omega)).trans ck7
    have kck8 := (k25.cell (p := ⟨g5, o5 + k * 10 + 8, none⟩) (World.block_lt_of_cell? _ _ ck8) (by dsimp only; omega)).trans ck8
    have kck9 := (k25.cell (p := ⟨g5, o5 + k * 10 + 9, none⟩) (World.block_lt_of_cell? _ _ ck9) (by dsimp only; omega)).trans ck9
    have kci0 := (k25.cell (p := ⟨g5, o5 + i * 10, none⟩) (World.block_lt_of_cell? _ _ ci0) (by dsimp only; omega)).trans ci0
    have kci1 := (k25.cell (p := ⟨g5, o5 + i * 10 + 1, none⟩) (World.block_lt_of_cell? _ _ ci1) (by dsimp only; omega)).trans ci1
    have kci2 := (k25.cell (p := ⟨g5, o5 + i * 10 + 2, none⟩) (World.block_lt_of_cell? _ _ ci2) (by dsimp only; omega)).trans ci2
    have kci3 := (k25.cell (p := ⟨g5, o5 + i * 10 + 3, none⟩) (World.block_lt_of_cell? _ _ ci3) (by dsimp only; omega)).trans ci3
    have kci4 := (k25.cell (p := ⟨g5, o5 + i * 10 + 4, none⟩) (World.block_lt_of_cell? _ _ ci4) (by dsimp only; omega)).trans ci4
    have kci5 := (k25.cell (p := ⟨g5, o5 + i * 10 + 5, none⟩) (World.block_lt_of_cell? _ _ ci5) (by dsimp only; omega)).trans ci5
    have kci6 := (k25.cell (p := ⟨g5, o5 + i * 10 + 6, none⟩) (World.block_lt_of_cell? _ _ ci6) (by dsimp only; omega)).trans ci6
    have kci7 := (k25.cell (p := ⟨g5, o5 + i * 10 + 7, none⟩) (World.block_lt_of_cell? _ _ ci7) (by dsimp only; omega)).trans ci7
    have kci8 := (k25.cell (p := ⟨g5, o5 + i * 10 + 8, none⟩) (World.block_lt_of_cell? _ _ ci8) (by dsimp only; omega)).trans ci8
    have kci9 := (k25.cell (p := ⟨g5, o5 + i * 10 + 9, none⟩) (World.block_lt_of_cell? _ _ ci9) (by dsimp only; omega)).trans ci9
    have KW25 := hid (KW24.out.then k25 (fun k hk => .inr (by omega)))
    have O25 := hid o25
    have PS25 := hid ((k25.block _ (lt_of_heap PS24.out) (fun e => by omega)).trans PS24.out)
    refine hK _ _ ⟨ksp2, kvp2, kck0, kck1, kck2, kck3, kck4, kck5, kck6, kck7, kck8, kck9, kci0, kci1, kci2, kci3, kci4, kci5, kci6, kci7, kci8, kci9⟩ ?_
    clear hK K k25 o25 KW24 O24 R24 HV24 PS24 sp2 vp2 ck0 ck1 ck2 ck3 ck4 ck5 ck6 ck7 ck8 ck9 ci0 ci1 ci2 ci3 ci4 ci5 ci6 ci7 ci8 ci9
    try simp only [Act.put, List.setIfInBounds_toArray, List.set_cons_zero, List.set_cons_succ]
    repeat (first
      | (refine' wpT_calm (v := _) (by rfl) (fun W hW => ?_) ?_; rotate_left
         · ((try dsimp only at hW); go_simp; first | done | rfl)
         simp only [Act.put, List.setIfInBounds_toArray, List.set_cons_zero, List.set_cons_succ])
      | (refine' wpT_reads (v := _) (by rfl) ?_ ?_; rotate_left
         · (go_simp; first | done | rfl)
         simp only [Act.put, List.setIfInBounds_toArray, List.set_cons_zero, List.set_cons_succ])
      | (refine wpT_skip (by rfl) rfl ?_; simp only [Act.put, List.setIfInBounds_toArray, List.set_cons_zero, List.set_cons_succ])
      | (refine wpT_does (by rfl) (fun K hK => ?_); go_simp; refine hK _ _ ?_ ?_
         · (trivial)
         clear hK K; try simp only [Act.put, List.setIfInBounds_toArray, List.set_cons_zero, List.set_cons_succ])
      | (refine wpT_last (by rfl) (fun K hK => ?_); go_simp; refine hK _ _ ?_; clear hK K)
      | (refine wpT_nil ?_))
    refine wpT_last (by rfl) (fun K hK => ?_)
    refine wp_store_rec (.tmp 162) (.tmp 160) rfl gs (i + 1) cs k (L.l.set i yk) O25.out (by rw [List.length_set]; exact hkl) rfl yi rfl ?_
    intro w26 o26 k26
    have KW26 := hid (KW25.out.then k26 (fun k hk => .inr (by omega)))
    have O26 := hid o26
    have PS26 := hid ((k26.block _ (lt_of_heap PS25.out) (fun e => by omega)).trans PS25.out)
    refine hK _ _ ?_
    clear hK K k26 o26 KW25 O25 PS25 ksp2 kvp2 kck0 kck1 kck2 kck3 kck4 kck5 kck6 kck7 kck8 kck9 kci0 kci1 kci2 kci3 kci4 kci5 kci6 kci7 kci8 kci9
    try simp only [Act.put, List.setIfInBounds_toArray, List.set_cons_zero, List.set_cons_succ]
    obtain ⟨M2, hM2⟩ : ∃ M, (L.l.set i yk).set k yi = M := ⟨_, rfl⟩
    rw [hM2] at O26
    obtain ⟨vr3, hvr3⟩ : ∃ vr, ver dd L.base M2 L.head = vr := ⟨_, rfl⟩
    obtain ⟨eb, heb⟩ : ∃ eb, decide (i = k) = eb := ⟨_, rfl⟩
    have hvb3 : (vr3 == 0) = eb := by
      have hml : M2.length ≤ 16 := by rw [← hM2, List.length_set, List.length_set, HM.out]; omega
      rw [← hvr3, ← heb]
      by_cases hik : i = k
      · have e2 : M2 = L.l := by rw [← hM2, ← HYK.out, ← HYI.out]; subst hik; exact swap_same _ _ _
        have e3 : seqsOk dd 0 M2 = true := by rw [e2]; exact SOK.out
        rw [ver_ok VOK.out M2 hml e3, decide_eq_true hik, if_neg (fun k => k (by rw [e2]; exact chain_all AA.out))]; rfl
      · have e3 : seqsOk dd 0 M2 = false := by rw [← hM2, ← HYK.out, ← HYI.out, ← HDD.out]; exact seqs_swap AA.out HH.out (by have := HLE.out; omega) i k hil hkl hik
        rw [ver_bad VOK.out M2 hml e3, decide_eq_false hik]; rfl
    have heq3 : ((i : Int) == (k : Int)) = eb := by
      rw [← heb, Bool.eq_iff_iff]; simp only [beq_iff_eq, decide_eq_true_eq]; omega
    have HVR3 := hid hvr3
    clear hvr3 heb hM2
    go_wp2_with fail
    refine (aawake_any _).mono ?_
    rintro _ w27 ⟨rfl, k27⟩
    have KW27 := hid (KW26.out.trans k27)
    have V3 := hid (VF.out w27 _ _ _ M2 (O26.out.keep k27 (fun _ _ h => h)).reads)
    rw [HVR3.out] at V3
    have PS27 := (k27.block _ (lt_of_heap PS26.out) (fun h => h)).trans PS26.out
    have t0 : w27.cell? ⟨ps, 0, none⟩ = some (.int .i64 dd) := by rw [cell_of_row _ _ 0 _ _ _ PS27]; rfl
    have t1 : w27.cell? ⟨ps, 1, none⟩ = some (.string B) := by rw [cell_of_row _ _ 1 _ _ _ PS27]; rfl
    have t2 : w27.cell? ⟨ps, 2, none⟩ = some (.slice (some ⟨gs, 0, none⟩) (i + 1) cs) := by rw [cell_of_row _ _ 2 _ _ _ PS27]; rfl
    have t3 : w27.cell? ⟨ps, 3, none⟩ = some (.string E) := by rw [cell_of_row _ _ 3 _ _ _ PS27]; rfl
    clear k27 KW26 O26 PS26 PS27
    go_wp2_with fail
    refine V3.out.mono ?_
    rintro _ w28 ⟨rfl, k28⟩
    have KW28 := hid (KW27.out.trans k28)
    clear k28 KW27 V3
    go_wp2_with fail
    go_ret
    exact ⟨by simp, KW28.out.below (fun _ h => h.elim) (Nat.le_refl _)⟩
end Go.Proofs.Ytpijnpapmdnceaa
