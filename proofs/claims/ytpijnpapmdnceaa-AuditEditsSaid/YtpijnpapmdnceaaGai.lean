/- An append, and what becomes of the old row. The document's (*Log).Add (printed by gen_audq.py). The document's (*Log).View. The document's Verify (printed by gen_auds.py). The document's Same. -/
import Derived.Test.YtpijnpapmdnceaaGah

namespace Go.Proofs.Ytpijnpapmdnceaa
open Go Go.RowKit

/-- 'append(s, x...)', s the call's own: the old row stays as it was, or is still the list's. -/
theorem wp_append_stay {P : Program} (w : World) {o : Oper} {a : Act} {K : Act → World → Prop} {Q : Exit → Act → World → Prop} (s x : Operand) (t : TypeId)
    (ho : o.op = .call { callee := .builtin .append, args := #[s, x], argTypes := #[t, t] })
    (base : Nat) (e : TypeId) (i : TypeInfo) (z : Value) (size bytes : Nat) (ht : P.underlying t = some (.slice e)) (hi : P.info? e = some i) (hz : i.zero = some z)
    (hsize : i.size = size) (hby : i.bytes = bytes) (hzs : z.cells.size = size) (hsz : 0 < size)
    (v : Value) (n : Nat) (xs : List Value) (hs : a.eval s = v) (hown : w.ownsRow base e size v n xs)
    (ad : Addr) (c m : Nat) (news : List Value) (hx : a.eval x = .slice (some ad) m c) (hl : news.length = m * size) (hc : ∀ j u, news[j]? = some u → w.cell? (ad.add j) = some u) (h1 : ∀ u ∈ news, u.oneCell' = true) (hm0 : 0 < m)
    (h63 : n + m ≤ maxLen) (hbytes : (n + m) * bytes ≤ 140737488355328) (hbase : base ≤ w.heap.size)
    (h : ∀ v' w', w'.ownsRow base e size v' (n + m) (xs ++ news) → w.grownBy w' v.ownBlock → (∀ k, v'.ownBlock = some k → (v.ownBlock = some k ∨ (w.heap.size ≤ k ∧ ∀ g, v.ownBlock = some g → w'.heap[g]? = w.heap[g]?))) → K (a.put o.dst v') w') : o.wp P a w K Q := by
  subst hsize
  subst hby
  have hh := hown
  have h63' : n + m ≤ 9223372036854775807 := by simp only [maxLen] at h63; omega
  obtain ⟨v', w', hr, h2, h3, h4⟩ := run_append_own (P := P) w base t o.type e i z i.size i.bytes ht hi hz rfl rfl hzs hsz v n xs hown ad m c news hl hc h1 h63 hbytes hbase
  have hfresh : ∀ k, v'.ownBlock = some k → v.ownBlock = some k ∨ (w.heap.size ≤ k ∧ ∀ g, v.ownBlock = some g → w'.heap[g]? = w.heap[g]?) := by
    rcases hown.2 with ⟨rfl, rfl⟩ | ⟨g, cap, cur, rfl, hbg, hg, hnc, hcm, hcs, htake⟩
    · have hr2 := run_append_nil (P := P) w t o.type e i z ht hi hz ad m c news hl hc (by omega) (by omega) (by have hb := hbytes; simp only [Nat.zero_add] at hb; omega)
      rw [hr2] at hr
      cases hr
      intro k hk
      refine .inr ⟨?_, fun g hg => by simp [Value.ownBlock] at hg⟩
      simp [Value.ownBlock] at hk
      omega
    · by_cases hroom : n + m ≤ cap
      · have hfit : n * i.size + news.length ≤ cur.size := by rw [hl, hcs, ← Nat.add_mul]; exact Nat.mul_le_mul_right _ hroom
        have hr2 := run_append_room (P := P) w t o.type e i ht hi g n cap cur hg ad m c news hl hc h1 hroom hfit
        rw [hr2] at hr
        cases hr
        intro k hk
        exact .inl hk
      · have holds : ∀ j u, xs[j]? = some u → w.cell? ((⟨g, 0, none⟩ : Addr).add j) = some u := hh.cells (g := g) rfl
        have hr2 := run_append_grow (P := P) w t o.type e i z ht hi hz ⟨g, 0, none⟩ n cap xs hh.1 holds ad m c news hl hc (by omega) (by omega) (growslice_fits (by omega) hbytes)
        rw [hr2] at hr
        cases hr
        intro k hk
        refine .inr ⟨?_, fun g' hg' => ?_⟩
        · simp [Value.ownBlock] at hk
          omega
        · have e : g = g' := Option.some.inj hg'
          subst e
          exact heap_alloc_old w.drew _ (lt_of_heap hg)
  unfold Oper.wp execOp
  simp only [ho, resolve, invoke, builtin, Sem.run_bind, Sem.run_pure, Result.andThen_ok, List.map_toArray, List.map_cons, List.map_nil, hs, hx, hr]
  exact h v' w' h2 h3 hfresh

theorem flatS_get (l : List (List B8)) (i : Nat) (h : i < l.length) : (flatS l)[i]? = some (.string (bya l[i])) := by
  unfold flatS
  rw [List.getElem?_map, List.getElem?_eq_getElem h]
  rfl
theorem OwnS.at {w : World} {g n c : Nat} {l : List (List B8)} (h : OwnS w (.slice (some ⟨g, 0, none⟩) n c) l) (i : Nat) (hi : i < l.length) : w.cell? ⟨g, i, none⟩ = some (.string (bya l[i])) := by
  have := h.cells (g := g) rfl i _ (flatS_get l i hi)
  rwa [add_off, Nat.zero_add] at this
theorem OwnS.block {w : World} {v : Value} {l : List (List B8)} (h : OwnS w v l) (hl : 0 < l.length) : ∃ g c, v = .slice (some ⟨g, 0, none⟩) l.length c := by
  rcases h with ⟨_, ⟨_, h0⟩ | ⟨g, cap, cur, rfl, _⟩⟩
  · omega
  · exact ⟨g, cap, rfl⟩
/-- A text more: the texts that were there can be read where they were. -/
theorem wp_append_text (w : World) {o : Oper} {a : Act} {K : Act → World → Prop} {Q : Exit → Act → World → Prop} (s y : Operand)
    (ho : o.op = .call { callee := .builtin .append, args := #[s, y], argTypes := #[68, 68] })
    (g n c : Nat) (l : List (List B8)) (hs : a.eval s = .slice (some ⟨g, 0, none⟩) n c) (hn : l.length = n) (hown : OwnS w (.slice (some ⟨g, 0, none⟩) n c) l) (ad : Addr) (c2 : Nat) (x : List B8) (hx : a.eval y = .slice (some ad) 1 c2) (hsrc : w.cell? ad = some (.string (bya x))) (hle : n ≤ 100000)
    (h : ∀ v' w', OwnS w' v' (l ++ [x]) → (∀ k, v'.ownBlock = some k → g = k ∨ w.heap.size ≤ k) → Keep (fun k => g = k) w w' → (∀ i, (hi : i < l.length) → w'.cell? ⟨g, i, none⟩ = some (.string (bya l[i]))) → K (a.put o.dst v') w') : o.wp Try.prog a w K Q := by
  obtain ⟨i0, hi, hz0, hz1, hz2⟩ := info_parts Try.infoS2
  subst hn
  refine wp_append_stay w s y 68 ho 0 9 i0 (.string ByteArray.empty) 1 16 Try.underlying68 hi hz0 hz1 hz2 rfl (by decide) _ l.length (flatS l) hs hown ad c2 1 (flatS [x]) hx rfl ?_ (flatS_one _) (by decide) (by unfold maxLen; omega) (by omega) (Nat.zero_le _) ?_
  · intro j u hu
    rcases j with _ | j
    · have e0 : ad.add 0 = ad := by unfold Addr.add; split <;> simp_all
      rw [e0]
      simp [flatS] at hu
      rw [← hu]
      exact hsrc
    · simp [flatS] at hu
  · intro v1 w1 o1 g1 f1
    have O1 : OwnS w1 v1 (l ++ [x]) := by
      unfold OwnS
      rw [List.length_append, flatS_append]
      exact o1
    obtain ⟨g2, c3, hv⟩ := O1.block (by simp)
    refine h v1 w1 O1 (fun k hk => (f1 k hk).imp (fun e => Option.some.inj e) (fun e => e.1)) ((Keep.of_grown g1).mono fun k _ e => Option.some.inj e) (fun i hi => ?_)
    have hv2 := hv
    subst hv
    rcases f1 g2 rfl with e | ⟨_, e⟩
    · have e2 : g = g2 := Option.some.inj e
      subst e2
      have := O1.at i (by rw [List.length_append]; omega)
      rw [List.getElem_append_left hi] at this
      exact this
    · exact (World.cell?_of_block (e g rfl)).trans (hown.at i hi)
end Go.Proofs.Ytpijnpapmdnceaa

namespace Go.Proofs.Ytpijnpapmdnceaa
open Go Go.RowKit

def lastOf (R : Rl) : List B8 := R.links.getD R.all.length zero32
def addR (R : Rl) (r : Rc) : Rl := { R with all := R.all ++ [r], links := R.links ++ [chn (lastOf R) r] }
theorem lastOf_eq (R : Rl) (h : R.links.length = R.all.length + 1) : R.links[R.all.length]'(by omega) = lastOf R := by
  unfold lastOf
  rw [List.getD_eq_getElem?_getD, List.getElem?_eq_getElem (by omega)]
  rfl
theorem lastOf_mem (R : Rl) (h : R.links.length = R.all.length + 1) : lastOf R ∈ R.links := by rw [← lastOf_eq R h]; exact List.getElem_mem _
section
variable {w w1 : World} {b : Nat} {va vl v1 : Value} {R : Rl}
theorem ownR_set {i : Nat} {v u : Value} {l : List Rc} (o : OwnR w v l) (hv : v.ownBlock ≠ some b) : OwnR (w.setCell ⟨b, i, none⟩ u) v l :=
  o.keep (F := fun k => k = b) ((Keep.refl _ _).setOwn u) (fun k hk e => hv (by rw [hk, e]))
theorem ownS_set {i : Nat} {v u : Value} {l : List (List B8)} (o : OwnS w v l) (hv : v.ownBlock ≠ some b) : OwnS (w.setCell ⟨b, i, none⟩ u) v l :=
  o.keep (F := fun k => k = b) ((Keep.refl _ _).setOwn u) (fun k hk e => hv (by rw [hk, e]))
end

set_option maxRecDepth 10000 in
set_option maxHeartbeats 1000000 in
theorem radd_any {w : World} {b : Nat} {va vl : Value} {R : Rl} (h : RlAt w b va vl R) (hl : R.all.length ≤ 1000) (t c o e n m x y z : Int) :
    Calls Try.prog 20 #[.pointer (some ⟨b, 0, none⟩), .agg #[.int .i64 t, .int .i64 c, .int .i64 o, .int .i64 e, .int .i64 n, .int .i64 m], .int .i64 x, .int .i64 y, .int .i64 z] w fun e' w' =>
      ∃ va' vl', e' = .returned (.tuple #[]) ∧ RlAt w' b va' vl' (addR R ⟨(R.all.length : Int), t, c, o, e, n, m, x, y, z⟩) ∧ (∀ k, va'.ownBlock = some k → va.ownBlock = some k ∨ w.heap.size ≤ k) ∧ (∀ k, vl'.ownBlock = some k → vl.ownBlock = some k ∨ w.heap.size ≤ k) ∧ Keep (fun k => k = b ∨ va.ownBlock = some k ∨ vl.ownBlock = some k) w w' := by
  obtain ⟨a0, c0, hv⟩ := h.oa.form
  have hlen := h.len
  obtain ⟨g, d0, hw⟩ := h.ol.block (by omega)
  have H := hid h
  subst hv hw
  have WB := h.lt
  have g0 := h.c0
  have hg1 := h.c1
  have f0 := h.fro 0
  have f1 := h.fro 1
  have LT := lastOf_eq R hlen
  have L32 : (lastOf R).length = 32 := h.h32 _ (lastOf_mem R hlen)
  have gl : g < w.heap.size := (h.ol.lt g rfl).2
  have gne : g ≠ b := fun e => h.nl (by rw [e]; rfl)
  have gna : ∀ k, (Value.slice a0 R.all.length c0).ownBlock = some k → g ≠ k := fun k hk e => h.nn k hk (by rw [e]; rfl)
  have qa : ∀ k, (Value.slice a0 R.all.length c0).ownBlock = some k → k < w.heap.size := fun k hk => (h.oa.lt k hk).2
  have hx0 := h.ol.at R.all.length (by omega)
  rw [LT] at hx0
  obtain ⟨Sx, hSx⟩ : ∃ S, bya (lastOf R) = S := ⟨_, rfl⟩
  rw [hSx] at hx0
  have HSX := hid hSx
  have HL32 := hid L32
  clear h LT L32 hSx
  obtain ⟨ln, hln⟩ : ∃ ln, R.all.length = ln := ⟨_, rfl⟩
  have hll : R.links.length = ln + 1 := by omega
  have HLN := hid hln
  have HLL := hid hll
  rw [hln] at g0 hl H gna qa hx0 ⊢
  rw [hll] at hg1 H ⊢
  clear hln hll hlen
  have AL : w.heap.size < (w.alloc (.cells #[.int .i64 t, .int .i64 c, .int .i64 o, .int .i64 e, .int .i64 n, .int .i64 m] 40)).heap.size := by rw [World.size_alloc]; exact Nat.lt_succ_self _
  have K0 : Keep (fun _ => False) w (w.alloc (.cells #[.int .i64 t, .int .i64 c, .int .i64 o, .int .i64 e, .int .i64 n, .int .i64 m] 40)) := (Keep.refl _ _).alloc _
  have o0 : ∀ i, i < 6 → (w.alloc (.cells #[.int .i64 t, .int .i64 c, .int .i64 o, .int .i64 e, .int .i64 n, .int .i64 m] 40)).cell? ⟨w.heap.size, i, none⟩ = some (#[.int .i64 t, .int .i64 c, .int .i64 o, .int .i64 e, .int .i64 n, .int .i64 m].getD i undef) := fun i hi => by
    rw [World.cell?_alloc_new]
    have : i = 0 ∨ i = 1 ∨ i = 2 ∨ i = 3 ∨ i = 4 ∨ i = 5 := by omega
    rcases this with rfl | rfl | rfl | rfl | rfl | rfl <;> rfl
  obtain ⟨W1, hW1⟩ : ∃ W1, w.alloc (.cells #[.int .i64 t, .int .i64 c, .int .i64 o, .int .i64 e, .int .i64 n, .int .i64 m] 40) = W1 := ⟨_, rfl⟩
  have S1 : W1.heap.size = w.heap.size + 1 := by rw [← hW1, World.size_alloc]
  rw [hW1] at AL K0 o0
  have HW1 := hid hW1
  have HK1 := hid K0.drew
  have HO1 : Hid (∀ i, i < 6 → W1.drew.cell? ⟨w.heap.size, i, none⟩ = some (#[.int .i64 t, .int .i64 c, .int .i64 o, .int .i64 e, .int .i64 n, .int .i64 m].getD i undef)) := hid (fun i hi => o0 i hi)
  have HS1 := hid S1
  clear hW1 K0 o0 S1 AL
  go_enter Try.func20, Try.ntmps20
  go_wp2_with fail
  rw [HW1.out]
  have p0 := (HK1.out.cell (p := ⟨b, 0, none⟩) WB (fun h => h)).trans g0
  have HD := hid (H.out.keep HK1.out (fun h => h) (fun _ _ h => h) (fun _ _ h => h))
  refine wp_region_text [0,0,0,0,0,0,0,0,0,0,2,3] (fun W => W.cell? ⟨b, 0, none⟩ = some (.slice a0 ln c0) ∧ W.cell? ⟨w.heap.size, 0, none⟩ = some (.int .i64 t) ∧ W.cell? ⟨w.heap.size, 1, none⟩ = some (.int .i64 c) ∧ W.cell? ⟨w.heap.size, 2, none⟩ = some (.int .i64 o) ∧ W.cell? ⟨w.heap.size, 3, none⟩ = some (.int .i64 e) ∧ W.cell? ⟨w.heap.size, 4, none⟩ = some (.int .i64 n) ∧ W.cell? ⟨w.heap.size, 5, none⟩ = some (.int .i64 m)) (by kernel_rfl) (by kernel_rfl) ⟨p0, HO1.out 0 (by omega), HO1.out 1 (by omega), HO1.out 2 (by omega), HO1.out 3 (by omega), HO1.out 4 (by omega), HO1.out 5 (by omega)⟩ ?_
  repeat (first
    | (refine' wpT_calm (v := _) (by rfl) (fun W hW => ?_) ?_; rotate_left
       · ((try dsimp only at hW); go_simp; first | done | rfl)
       simp only [Act.put, List.setIfInBounds_toArray, List.set_cons_zero, List.set_cons_succ])
    | (refine' wpT_reads (v := _) (by rfl) ?_ ?_; rotate_left
       · (go_simp; first | done | rfl)
       simp only [Act.put, List.setIfInBounds_toArray, List.set_cons_zero, List.set_cons_succ])
    | (refine wpT_skip (by rfl) rfl ?_; simp only [Act.put, List.setIfInBounds_toArray, List.set_cons_zero, List.set_cons_succ])
    | (refine wpT_does (by rfl) (fun K hK => ?_); go_simp; refine hK _ _ ?_ ?_
       · (trivial)
       clear hK K; try simp only [Act.put, List.setIfInBounds_toArray, List.set_cons_zero, List.set_cons_succ])
    | (refine wpT_last (by rfl) (fun K hK => ?_); go_simp; refine hK _ _ ?_; clear hK K)
    | (refine wpT_nil ?_))
  obtain ⟨V1, hV1⟩ : ∃ V, W1.drew = V := ⟨_, rfl⟩
  have SV : V1.heap.size = w.heap.size + 1 := by rw [← hV1]; exact HS1.out
  rw [hV1] at HK1 HO1 HD p0 ⊢
  have KA : Keep (fun _ => False) V1 (V1.alloc (.cells #[.int .i64 0, .int .i64 0, .int .i64 0, .int .i64 0, .int .i64 0, .int .i64 0, .int .i64 0, .int .i64 0, .int .i64 0, .int .i64 0] 42)) := (Keep.refl _ _).alloc _
  have lw : ∀ i, i < 6 → (V1.alloc (.cells #[.int .i64 0, .int .i64 0, .int .i64 0, .int .i64 0, .int .i64 0, .int .i64 0, .int .i64 0, .int .i64 0, .int .i64 0, .int .i64 0] 42)).cell? ⟨w.heap.size, i, none⟩ = some (#[.int .i64 t, .int .i64 c, .int .i64 o, .int .i64 e, .int .i64 n, .int .i64 m].getD i undef) := fun i hi => (KA.cell (p := ⟨w.heap.size, i, none⟩) (by dsimp only; omega) (fun h => h)).trans (HO1.out i hi)
  have HSV := hid SV
  have HV1 := hid hV1
  clear hV1 SV
  refine wpT_does (by rfl) (fun K hK => ?_)
  go_simp
  refine hK _ _ ⟨(KA.cell (p := ⟨b, 0, none⟩) HD.out.lt (fun h => h)).trans p0, lw 0 (by omega), lw 1 (by omega), lw 2 (by omega), lw 3 (by omega), lw 4 (by omega), lw 5 (by omega)⟩ ?_
  clear hK K lw
  try simp only [Act.put, List.setIfInBounds_toArray, List.set_cons_zero, List.set_cons_succ]
  refine wpT_last (by rfl) (fun K hK => ?_)
  go_simp
  refine hK _ _ ?_
  clear hK K
  have HK2 := hid (HK1.out.alloc (.cells #[.int .i64 (ln : Int), .int .i64 t, .int .i64 c, .int .i64 o, .int .i64 e, .int .i64 n, .int .i64 m, .int .i64 x, .int .i64 y, .int .i64 z] 42))
  have r2 : (V1.alloc (.cells #[.int .i64 (ln : Int), .int .i64 t, .int .i64 c, .int .i64 o, .int .i64 e, .int .i64 n, .int .i64 m, .int .i64 x, .int .i64 y, .int .i64 z] 42)).heap[w.heap.size + 1]? = some (.cells #[.int .i64 (ln : Int), .int .i64 t, .int .i64 c, .int .i64 o, .int .i64 e, .int .i64 n, .int .i64 m, .int .i64 x, .int .i64 y, .int .i64 z] 42 (0, 0)) := by rw [← HSV.out]; exact heap_alloc_new V1 _
  have H2 := hid (HD.out.keep ((Keep.refl (fun _ => False) V1).alloc (.cells #[.int .i64 (ln : Int), .int .i64 t, .int .i64 c, .int .i64 o, .int .i64 e, .int .i64 n, .int .i64 m, .int .i64 x, .int .i64 y, .int .i64 z] 42)) (fun h => h) (fun _ _ h => h) (fun _ _ h => h))
  have S2 : (V1.alloc (.cells #[.int .i64 (ln : Int), .int .i64 t, .int .i64 c, .int .i64 o, .int .i64 e, .int .i64 n, .int .i64 m, .int .i64 x, .int .i64 y, .int .i64 z] 42)).heap.size = w.heap.size + 2 := by rw [World.size_alloc, HSV.out]
  obtain ⟨W2, hW2⟩ : ∃ W2, V1.alloc (.cells #[.int .i64 (ln : Int), .int .i64 t, .int .i64 c, .int .i64 o, .int .i64 e, .int .i64 n, .int .i64 m, .int .i64 x, .int .i64 y, .int .i64 z] 42) = W2 := ⟨_, rfl⟩
  rw [hW2] at HK2 r2 H2 S2 ⊢
  rw [HSV.out]
  have HR2 := hid r2
  have HS2 := hid S2
  have H2' := hid (H2.out.keep ((Keep.refl (fun _ => False) W2).drew) (fun h => h) (fun _ _ h => h) (fun _ _ h => h))
  have HK2' := hid HK2.out.drew
  clear hW2 KA p0 r2 S2 HD HK1 HO1 HV1 H2 g0 HK2
  go_wp2_with fail
  have p0 := H2'.out.c0
  have rq : ∀ j, W2.drew.cell? ⟨w.heap.size + 1, j, none⟩ = (#[.int .i64 (ln : Int), .int .i64 t, .int .i64 c, .int .i64 o, .int .i64 e, .int .i64 n, .int .i64 m, .int .i64 x, .int .i64 y, .int .i64 z] : Array Value)[j]? := fun j => cell_of_row _ _ j _ _ _ HR2.out
  refine wp_region_text [0,0,0,0,0,0,2,2,0,0,3] (fun W => W.cell? ⟨b, 0, none⟩ = some (.slice a0 ln c0) ∧ W.cell? ⟨w.heap.size + 1, 0, none⟩ = some (.int .i64 (ln : Int)) ∧ W.cell? ⟨w.heap.size + 1, 1, none⟩ = some (.int .i64 t) ∧ W.cell? ⟨w.heap.size + 1, 2, none⟩ = some (.int .i64 c) ∧ W.cell? ⟨w.heap.size + 1, 3, none⟩ = some (.int .i64 o) ∧ W.cell? ⟨w.heap.size + 1, 4, none⟩ = some (.int .i64 e) ∧ W.cell? ⟨w.heap.size + 1, 5, none⟩ = some (.int .i64 n) ∧ W.cell? ⟨w.heap.size + 1, 6, none⟩ = some (.int .i64 m) ∧ W.cell? ⟨w.heap.size + 1, 7, none⟩ = some (.int .i64 x) ∧ W.cell? ⟨w.heap.size + 1, 8, none⟩ = some (.int .i64 y) ∧ W.cell? ⟨w.heap.size + 1, 9, none⟩ = some (.int .i64 z)) (by kernel_rfl) (by kernel_rfl) ⟨p0, rq 0, rq 1, rq 2, rq 3, rq 4, rq 5, rq 6, rq 7, rq 8, rq 9⟩ ?_
  have HRQ := hid rq
  obtain ⟨D, hD⟩ : ∃ D, W2.drew = D := ⟨_, rfl⟩
  have qlt : w.heap.size + 1 < D.heap.size := by rw [← hD]; show w.heap.size + 1 < W2.heap.size; rw [HS2.out]; exact Nat.lt_succ_self _
  have QLT := hid qlt
  rw [hD] at H2' HK2' HRQ rq p0 ⊢
  clear hD qlt
  clear rq
  repeat (first
    | (refine' wpT_calm (v := _) (by rfl) (fun W hW => ?_) ?_; rotate_left
       · ((try dsimp only at hW); go_simp; first | done | rfl)
       simp only [Act.put, List.setIfInBounds_toArray, List.set_cons_zero, List.set_cons_succ])
    | (refine' wpT_reads (v := _) (by rfl) ?_ ?_; rotate_left
       · (go_simp; first | done | rfl)
       simp only [Act.put, List.setIfInBounds_toArray, List.set_cons_zero, List.set_cons_succ])
    | (refine wpT_skip (by rfl) rfl ?_; simp only [Act.put, List.setIfInBounds_toArray, List.set_cons_zero, List.set_cons_succ])
    | (refine wpT_does (by rfl) (fun K hK => ?_); go_simp; refine hK _ _ ?_ ?_
       · (trivial)
       clear hK K; try simp only [Act.put, List.setIfInBounds_toArray, List.set_cons_zero, List.set_cons_succ])
    | (refine wpT_last (by rfl) (fun K hK => ?_); go_simp; refine hK _ _ ?_; clear hK K)
    | (refine wpT_nil ?_))
  refine wpT_does (by rfl) (fun K hK => ?_)
  go_simp
  have KA : Keep (fun _ => False) D (D.alloc (.cells #[.int .i64 (ln : Int), .int .i64 t, .int .i64 c, .int .i64 o, .int .i64 e, .int .i64 n, .int .i64 m, .int .i64 x, .int .i64 y, .int .i64 z] 42)) := (Keep.refl _ _).alloc _
  have hsz : (D.alloc (.cells #[.int .i64 (ln : Int), .int .i64 t, .int .i64 c, .int .i64 o, .int .i64 e, .int .i64 n, .int .i64 m, .int .i64 x, .int .i64 y, .int .i64 z] 42)).heap.size = D.heap.size + 1 := World.size_alloc _ _
  have hown := H2'.out.oa.keep KA (fun _ _ h => h)
  have hsrc := one_srcR D (⟨(ln : Int), t, c, o, e, n, m, x, y, z⟩ : Rc)
  have l2 := (KA.cell (p := ⟨b, 0, none⟩) H2'.out.lt (fun h => h)).trans H2'.out.c0
  have rq2 : ∀ j, (D.alloc (.cells #[.int .i64 (ln : Int), .int .i64 t, .int .i64 c, .int .i64 o, .int .i64 e, .int .i64 n, .int .i64 m, .int .i64 x, .int .i64 y, .int .i64 z] 42)).cell? ⟨w.heap.size + 1, j, none⟩ = (#[.int .i64 (ln : Int), .int .i64 t, .int .i64 c, .int .i64 o, .int .i64 e, .int .i64 n, .int .i64 m, .int .i64 x, .int .i64 y, .int .i64 z] : Array Value)[j]? := fun j => (KA.cell (p := ⟨w.heap.size + 1, j, none⟩) QLT.out (fun h => h)).trans (HRQ.out j)
  refine hK _ _ ⟨l2, rq2 0, rq2 1, rq2 2, rq2 3, rq2 4, rq2 5, rq2 6, rq2 7, rq2 8, rq2 9⟩ ?_
  clear hK K p0
  try simp only [Act.put, List.setIfInBounds_toArray, List.set_cons_zero, List.set_cons_succ]
  refine wpT_does (by rfl) (fun K hK => ?_)
  refine wp_append_recs _ (.tmp 25) (.tmp 27) rfl (.slice a0 ln c0) R.all rfl hown _ 1 [(⟨(ln : Int), t, c, o, e, n, m, x, y, z⟩ : Rc)] rfl hsrc (by rw [HLN.out]; omega) ?_
  intro v1 w1 o1 fr1 k1
  have e1 : (R.all ++ [(⟨(ln : Int), t, c, o, e, n, m, x, y, z⟩ : Rc)]).length = ln + 1 := by rw [List.length_append, HLN.out]; rfl
  have O1 := hid o1
  obtain ⟨a1, c1, hv1⟩ := o1.form
  rw [e1] at hv1
  subst hv1
  have nb : ¬ (Value.slice a0 ln c0).ownBlock = some b := H2'.out.na
  have nq : ¬ (Value.slice a0 ln c0).ownBlock = some (w.heap.size + 1) := fun e => by have := qa _ e; omega
  have ng : ¬ (Value.slice a0 ln c0).ownBlock = some g := fun e => gna g e rfl
  have KB : Keep (fun k => (Value.slice a0 ln c0).ownBlock = some k) D w1 := (KA.mono fun _ _ h => h.elim).trans k1
  have rowB := (KB.block b H2'.out.lt nb).trans H2'.out.row
  have F1 : Hid (∀ k, (Value.slice a1 (ln + 1) c1).ownBlock = some k → (Value.slice a0 ln c0).ownBlock = some k ∨ D.heap.size ≤ k) := hid (fun k hk => (fr1 k hk).elim .inl (fun h => .inr (by rw [hsz] at h; omega)))
  have N1 : (Value.slice a1 (ln + 1) c1).ownBlock ≠ some b := fun e => (F1.out b e).elim nb (fun h => by have := H2'.out.lt; omega)
  have NG : (Value.slice a1 (ln + 1) c1).ownBlock ≠ some g := fun e => (F1.out g e).elim ng (fun h => by have := HK2'.out.size; omega)
  have f3 : w1.frozen? ⟨b, 0, none⟩ = false := frozen_of_row w1 b 0 _ _ rowB
  have l3 := (k1.cell (p := ⟨b, 0, none⟩) (by rw [hsz]; exact Nat.lt_succ_of_lt H2'.out.lt) nb).trans l2
  have rq3 : ∀ j, w1.cell? ⟨w.heap.size + 1, j, none⟩ = (#[.int .i64 (ln : Int), .int .i64 t, .int .i64 c, .int .i64 o, .int .i64 e, .int .i64 n, .int .i64 m, .int .i64 x, .int .i64 y, .int .i64 z] : Array Value)[j]? := fun j => (k1.cell (p := ⟨w.heap.size + 1, j, none⟩) (by rw [hsz]; exact Nat.lt_succ_of_lt QLT.out) nq).trans (rq2 j)
  have OL := hid (H2'.out.ol.keep KB (fun k hk e => gna k e (Option.some.inj hk)))
  have ROWB := hid rowB
  have KC := hid (HK2'.out.mono (G := fun k => k = b ∨ (Value.slice a0 ln c0).ownBlock = some k ∨ (Value.slice (some ⟨g, 0, none⟩) (ln + 1) d0).ownBlock = some k) (fun _ _ h => h.elim) |>.then KB (fun k hk => .inl (.inr (.inl hk))))
  have RQ3 := hid rq3
  have QL1 : Hid (w.heap.size + 1 < w1.heap.size) := hid (Nat.lt_of_lt_of_le QLT.out KB.size)
  have HN1 := hid N1
  have HNG := hid NG
  have F2 : Hid (∀ k, (Value.slice a1 (ln + 1) c1).ownBlock = some k → (Value.slice a0 ln c0).ownBlock = some k ∨ w.heap.size + 2 ≤ k) := hid (fun k hk => (F1.out k hk).imp id (fun h => by have := QLT.out; omega))
  refine hK _ _ ⟨l3, rq3 0, rq3 1, rq3 2, rq3 3, rq3 4, rq3 5, rq3 6, rq3 7, rq3 8, rq3 9⟩ ?_
  clear hK K o1 fr1 k1 KA hsz hown hsrc rq2 l2 rq3 KB nb nq ng e1 rowB N1 NG
  try simp only [Act.put, List.setIfInBounds_toArray, List.set_cons_zero, List.set_cons_succ]
  repeat (first
    | (refine' wpT_calm (v := _) (by rfl) (fun W hW => ?_) ?_; rotate_left
       · ((try dsimp only at hW); go_simp; first | done | rfl)
       simp only [Act.put, List.setIfInBounds_toArray, List.set_cons_zero, List.set_cons_succ])
    | (refine' wpT_reads (v := _) (by rfl) ?_ ?_; rotate_left
       · (go_simp; first | done | rfl)
       simp only [Act.put, List.setIfInBounds_toArray, List.set_cons_zero, List.set_cons_succ])
    | (refine wpT_skip (by rfl) rfl ?_; simp only [Act.put, List.setIfInBounds_toArray, List.set_cons_zero, List.set_cons_succ])
    | (refine wpT_does (by rfl) (fun K hK => ?_); go_simp; refine hK _ _ ?_ ?_
       · (trivial)
       clear hK K; try simp only [Act.put, List.setIfInBounds_toArray, List.set_cons_zero, List.set_cons_succ])
    | (refine wpT_last (by rfl) (fun K hK => ?_); go_simp; refine hK _ _ ?_; clear hK K)
    | (refine wpT_nil ?_))
  have row2 : (w1.setCell ⟨b, 0, none⟩ (.slice a1 (ln + 1) c1)).heap[b]? = some (.cells #[.slice a1 (ln + 1) c1, .slice (some ⟨g, 0, none⟩) (ln + 1) d0, .int .i64 R.ring] 70 (0, 0)) := by
    have := heap_setCell_same w1 b 0 _ _ (.slice a1 (ln + 1) c1) ROWB.out
    exact this
  have OA2 := hid (ownR_set (i := 0) (u := .slice a1 (ln + 1) c1) O1.out HN1.out)
  have OL2 := hid (ownS_set (i := 0) (u := .slice a1 (ln + 1) c1) OL.out (fun e => gne (Option.some.inj e)))
  have KC2 := hid (KC.out.setCell (p := ⟨b, 0, none⟩) (.inl (.inl rfl)) (.slice a1 (ln + 1) c1))
  have RQ4 : Hid (∀ j, (w1.setCell ⟨b, 0, none⟩ (.slice a1 (ln + 1) c1)).cell? ⟨w.heap.size + 1, j, none⟩ = (#[.int .i64 (ln : Int), .int .i64 t, .int .i64 c, .int .i64 o, .int .i64 e, .int .i64 n, .int .i64 m, .int .i64 x, .int .i64 y, .int .i64 z] : Array Value)[j]?) := hid (fun j => (World.cell?_setCell_other _ _ _ _ (by first | (simp; done) | (simp; omega))).trans (RQ3.out j))
  have QL2 : Hid (w.heap.size + 1 < (w1.setCell ⟨b, 0, none⟩ (.slice a1 (ln + 1) c1)).heap.size) := hid (by have h1 := QL1.out; have h2 := (Keep.refl (fun k => k = b) w1).setOwn (b := b) (o := 0) (.slice a1 (ln + 1) c1); exact Nat.lt_of_lt_of_le h1 h2.size)
  have ROW2 := hid row2
  obtain ⟨V2, hV2⟩ : ∃ V, w1.setCell ⟨b, 0, none⟩ (.slice a1 (ln + 1) c1) = V := ⟨_, rfl⟩
  rw [hV2] at OA2 OL2 KC2 RQ4 QL2 ROW2 ⊢
  clear hV2 row2 f3 l3 O1 OL KC RQ3 QL1 ROWB F1
  go_wp2_with fail
  have m1 : V2.drew.cell? ⟨b, 1, none⟩ = some (.slice (some ⟨g, 0, none⟩) (ln + 1) d0) := by rw [World.cell?_drew, cell_of_row _ _ 1 _ _ _ ROW2.out]; rfl
  have rq : ∀ j, V2.drew.cell? ⟨w.heap.size + 1, j, none⟩ = (#[.int .i64 (ln : Int), .int .i64 t, .int .i64 c, .int .i64 o, .int .i64 e, .int .i64 n, .int .i64 m, .int .i64 x, .int .i64 y, .int .i64 z] : Array Value)[j]? := fun j => (World.cell?_drew V2 _).trans (RQ4.out j)
  have HLE : R.links.length = R.all.length + 1 := H.out.len
  have sx : V2.drew.cell? ⟨g, ln, none⟩ = some (.string Sx) := by
    have h1 := OL2.out.at R.all.length (by omega)
    rw [lastOf_eq R HLE, HSX.out, HLN.out] at h1
    rw [World.cell?_drew]
    exact h1
  have HHLE := hid HLE
  clear HLE
  have lni : (0 : Int) ≤ (ln : Int) := by omega
  have ln1 : (ln : Int) < (ln : Int) + 1 := by omega
  have wl : IntKind.i64.wrap (ln : Int) = (ln : Int) := IntWalk.i64_in _ ⟨by omega, by omega⟩
  have lnt : ((ln : Int) + 1 - 1).toNat = ln := by omega
  refine wp_region_text [0,0,0,0,0,0,0,0,0,0,0,0,0,0,0,0,0,0,2,2,2,2,0,0,3] (fun W => W.cell? ⟨b, 1, none⟩ = some (.slice (some ⟨g, 0, none⟩) (ln + 1) d0) ∧ W.cell? ⟨g, ln, none⟩ = some (.string Sx) ∧ W.cell? ⟨w.heap.size + 1, 0, none⟩ = some (.int .i64 (ln : Int)) ∧ W.cell? ⟨w.heap.size + 1, 1, none⟩ = some (.int .i64 t) ∧ W.cell? ⟨w.heap.size + 1, 2, none⟩ = some (.int .i64 c) ∧ W.cell? ⟨w.heap.size + 1, 3, none⟩ = some (.int .i64 o) ∧ W.cell? ⟨w.heap.size + 1, 4, none⟩ = some (.int .i64 e) ∧ W.cell? ⟨w.heap.size + 1, 5, none⟩ = some (.int .i64 n) ∧ W.cell? ⟨w.heap.size + 1, 6, none⟩ = some (.int .i64 m) ∧ W.cell? ⟨w.heap.size + 1, 7, none⟩ = some (.int .i64 x) ∧ W.cell? ⟨w.heap.size + 1, 8, none⟩ = some (.int .i64 y) ∧ W.cell? ⟨w.heap.size + 1, 9, none⟩ = some (.int .i64 z)) (by kernel_rfl) (by kernel_rfl) ⟨m1, sx, rq 0, rq 1, rq 2, rq 3, rq 4, rq 5, rq 6, rq 7, rq 8, rq 9⟩ ?_
  repeat (first
    | (refine' wpT_calm (v := _) (by rfl) (fun W hW => ?_) ?_; rotate_left
       · ((try dsimp only at hW); go_simp; first | done | rfl)
       simp only [Act.put, List.setIfInBounds_toArray, List.set_cons_zero, List.set_cons_succ])
    | (refine' wpT_reads (v := _) (by rfl) ?_ ?_; rotate_left
       · (go_simp; first | done | rfl)
       simp only [Act.put, List.setIfInBounds_toArray, List.set_cons_zero, List.set_cons_succ])
    | (refine wpT_skip (by rfl) rfl ?_; simp only [Act.put, List.setIfInBounds_toArray, List.set_cons_zero, List.set_cons_succ])
    | (refine wpT_does (by rfl) (fun K hK => ?_); go_simp; refine hK _ _ ?_ ?_
       · (trivial)
       clear hK K; try simp only [Act.put, List.setIfInBounds_toArray, List.set_cons_zero, List.set_cons_succ])
    | (refine wpT_last (by rfl) (fun K hK => ?_); go_simp; refine hK _ _ ?_; clear hK K)
    | (refine wpT_nil ?_))
  obtain ⟨D2, hD2⟩ : ∃ D, V2.drew = D := ⟨_, rfl⟩
  have KD2 := hid (KC2.out.drew)
  have OA3 := hid (OA2.out.keep ((Keep.refl (fun _ => False) V2).drew) (fun _ _ h => h))
  have OL3 := hid (OL2.out.keep ((Keep.refl (fun _ => False) V2).drew) (fun _ _ h => h))
  have RW3 : Hid (V2.drew.heap[b]? = some (.cells #[.slice a1 (ln + 1) c1, .slice (some ⟨g, 0, none⟩) (ln + 1) d0, .int .i64 R.ring] 70 (0, 0))) := hid ROW2.out
  have QL3 : Hid (w.heap.size + 1 < V2.drew.heap.size) := hid QL2.out
  rw [hD2] at KD2 OA3 OL3 RW3 QL3 m1 sx rq ⊢
  clear hD2 OA2 OL2 KC2 ROW2 QL2 RQ4
  refine wpT_does (by rfl) (fun K hK => ?_)
  go_simp
  have KA : Keep (fun _ => False) D2 (D2.alloc (.cells #[.int .i64 (ln : Int), .int .i64 t, .int .i64 c, .int .i64 o, .int .i64 e, .int .i64 n, .int .i64 m, .int .i64 x, .int .i64 y, .int .i64 z] 42)) := (Keep.refl _ _).alloc _
  have rr : ReadR (D2.alloc (.cells #[.int .i64 (ln : Int), .int .i64 t, .int .i64 c, .int .i64 o, .int .i64 e, .int .i64 n, .int .i64 m, .int .i64 x, .int .i64 y, .int .i64 z] 42)) (.slice (some ⟨D2.heap.size, 0, none⟩) 1 1) [(⟨(ln : Int), t, c, o, e, n, m, x, y, z⟩ : Rc)] := by
    refine .inr ⟨D2.heap.size, 0, 1, rfl, by rw [World.size_alloc]; exact Nat.lt_succ_self _, by show 1 ≤ maxLen; decide, fun j u hu => ?_⟩
    rw [Nat.zero_add, World.cell?_alloc_new]
    simpa [flatR, Rc.cells, Rc.nums] using hu
  have bD : b < D2.heap.size := lt_of_heap RW3.out
  have gD : g < D2.heap.size := (OL3.out.lt g rfl).2
  have m2 := (KA.cell (p := ⟨b, 1, none⟩) bD (fun h => h)).trans m1
  have sx2 := (KA.cell (p := ⟨g, ln, none⟩) gD (fun h => h)).trans sx
  have rq2 : ∀ j, (D2.alloc (.cells #[.int .i64 (ln : Int), .int .i64 t, .int .i64 c, .int .i64 o, .int .i64 e, .int .i64 n, .int .i64 m, .int .i64 x, .int .i64 y, .int .i64 z] 42)).cell? ⟨w.heap.size + 1, j, none⟩ = (#[.int .i64 (ln : Int), .int .i64 t, .int .i64 c, .int .i64 o, .int .i64 e, .int .i64 n, .int .i64 m, .int .i64 x, .int .i64 y, .int .i64 z] : Array Value)[j]? := fun j => (KA.cell (p := ⟨w.heap.size + 1, j, none⟩) QL3.out (fun h => h)).trans (rq j)
  have RR := hid rr
  have HKA := hid KA
  refine hK _ _ ⟨m2, sx2, rq2 0, rq2 1, rq2 2, rq2 3, rq2 4, rq2 5, rq2 6, rq2 7, rq2 8, rq2 9⟩ ?_
  clear hK K KA rr m1 sx rq
  try simp only [Act.put, List.setIfInBounds_toArray, List.set_cons_zero, List.set_cons_succ]
  refine wpT_does (by rfl) (fun K hK => ?_)
  go_simp
  rw [← HSX.out]
  refine (rchain_any RR.out (by simp) (lastOf R) HL32.out).mono ?_
  rintro _ w4 ⟨rfl, k4⟩
  have K4 := hid (HKA.out.trans k4)
  have m4 := (k4.cell (p := ⟨b, 1, none⟩) (World.block_lt_of_cell? _ _ m2) (fun h => h)).trans m2
  have sx4 := (k4.cell (p := ⟨g, ln, none⟩) (World.block_lt_of_cell? _ _ sx2) (fun h => h)).trans sx2
  have rq4 : ∀ j, w4.cell? ⟨w.heap.size + 1, j, none⟩ = (#[.int .i64 (ln : Int), .int .i64 t, .int .i64 c, .int .i64 o, .int .i64 e, .int .i64 n, .int .i64 m, .int .i64 x, .int .i64 y, .int .i64 z] : Array Value)[j]? := fun j => (k4.cell (p := ⟨w.heap.size + 1, j, none⟩) (Nat.lt_of_lt_of_le QL3.out HKA.out.size) (fun h => h)).trans (rq2 j)
  refine hK _ _ ⟨m4, sx4, rq4 0, rq4 1, rq4 2, rq4 3, rq4 4, rq4 5, rq4 6, rq4 7, rq4 8, rq4 9⟩ ?_
  clear hK K m2 sx2 rq2 k4 RR
  try simp only [Act.put, List.setIfInBounds_toArray, List.set_cons_zero, List.set_cons_succ]
  have EC : chns (lastOf R) [(⟨(ln : Int), t, c, o, e, n, m, x, y, z⟩ : Rc)] = chn (lastOf R) (⟨(ln : Int), t, c, o, e, n, m, x, y, z⟩ : Rc) := rfl
  obtain ⟨X, hX⟩ : ∃ X, chn (lastOf R) (⟨(ln : Int), t, c, o, e, n, m, x, y, z⟩ : Rc) = X := ⟨_, rfl⟩
  have XL : X.length = 32 := by rw [← hX]; exact chn_len _ _
  rw [EC, hX]
  have HX := hid hX
  have HXL := hid XL
  clear EC hX XL
  refine wpT_does (by rfl) (fun K hK => ?_)
  go_simp
  have KX : Keep (fun _ => False) w4 (w4.alloc (.cells #[.string (bya X)] 9)) := (Keep.refl _ _).alloc _
  have m5 := (KX.cell (p := ⟨b, 1, none⟩) (World.block_lt_of_cell? _ _ m4) (fun h => h)).trans m4
  have sx5 := (KX.cell (p := ⟨g, ln, none⟩) (World.block_lt_of_cell? _ _ sx4) (fun h => h)).trans sx4
  have Q4 : w.heap.size + 1 < w4.heap.size := Nat.lt_of_lt_of_le QL3.out K4.out.size
  have rq5 : ∀ j, (w4.alloc (.cells #[.string (bya X)] 9)).cell? ⟨w.heap.size + 1, j, none⟩ = (#[.int .i64 (ln : Int), .int .i64 t, .int .i64 c, .int .i64 o, .int .i64 e, .int .i64 n, .int .i64 m, .int .i64 x, .int .i64 y, .int .i64 z] : Array Value)[j]? := fun j => (KX.cell (p := ⟨w.heap.size + 1, j, none⟩) Q4 (fun h => h)).trans (rq4 j)
  refine hK _ _ ⟨m5, sx5, rq5 0, rq5 1, rq5 2, rq5 3, rq5 4, rq5 5, rq5 6, rq5 7, rq5 8, rq5 9⟩ ?_
  clear hK K m4 sx4 rq4
  try simp only [Act.put, List.setIfInBounds_toArray, List.set_cons_zero, List.set_cons_succ]
  have K5 := hid (K4.out.trans KX)
  have xc : (w4.alloc (.cells #[.string (bya X)] 9)).cell? ⟨w4.heap.size, 0, none⟩ = some (.string (bya X)) := by rw [World.cell?_alloc_new]; rfl
  obtain ⟨W5, hW5⟩ : ∃ W5, w4.alloc (.cells #[.string (bya X)] 9) = W5 := ⟨_, rfl⟩
  rw [hW5] at K5 m5 sx5 rq5 xc ⊢
  clear hW5 KX Q4
  refine wpT_does (by rfl) (fun K hK => ?_)
  refine wp_append_text _ (.tmp 35) (.tmp 51) rfl g (ln + 1) d0 R.links rfl HLL.out (OL3.out.keep K5.out (fun _ _ h => h)) ⟨w4.heap.size, 0, none⟩ 1 X rfl xc (by omega) ?_
  intro v6 w6 o6 f6 k6 c6
  have e6 : (R.links ++ [X]).length = ln + 2 := by rw [List.length_append, HLL.out]; rfl
  have O6 := hid o6
  obtain ⟨a6, d6, hv6⟩ := o6.form
  rw [e6] at hv6
  subst hv6
  have K6 : Keep (fun k => g = k) D2 w6 := (K5.out.mono fun _ _ h => h.elim).trans k6
  have gb : g ≠ b := gne
  have m6 := (k6.cell (p := ⟨b, 1, none⟩) (World.block_lt_of_cell? _ _ m5) gb).trans m5
  have gq : g ≠ w.heap.size + 1 := by omega
  have rq6 : ∀ j, w6.cell? ⟨w.heap.size + 1, j, none⟩ = (#[.int .i64 (ln : Int), .int .i64 t, .int .i64 c, .int .i64 o, .int .i64 e, .int .i64 n, .int .i64 m, .int .i64 x, .int .i64 y, .int .i64 z] : Array Value)[j]? := fun j => (k6.cell (p := ⟨w.heap.size + 1, j, none⟩) (Nat.lt_of_lt_of_le QL3.out K5.out.size) gq).trans (rq5 j)
  have sx6 : w6.cell? ⟨g, ln, none⟩ = some (.string (bya (lastOf R))) := by
    have h1 := c6 R.all.length (by rw [HLL.out, HLN.out]; exact Nat.lt_succ_self _)
    rw [lastOf_eq R HHLE.out, HLN.out] at h1
    exact h1
  have ROW6 := (K6.block b (lt_of_heap RW3.out) gb).trans RW3.out
  have HROW6 := hid ROW6
  have fr6 : w6.frozen? ⟨b, 1, none⟩ = false := frozen_of_row w6 b 1 _ _ ROW6
  have OA6 := hid (OA3.out.keep K6 (fun k hk e => HNG.out (by rw [hk, e])))
  have K7 := hid (KD2.out.then K6 (fun k hk => .inl (.inr (.inr (by rw [← hk]; rfl)))))
  have F6 : Hid (∀ k, (Value.slice a6 (ln + 2) d6).ownBlock = some k → g = k ∨ D2.heap.size ≤ k) := hid (fun k hk => (f6 k hk).imp id (fun h => Nat.le_trans K5.out.size h))
  have HG6 := hid K6.size
  refine hK _ _ ⟨m6, by rw [← HSX.out]; exact sx6, rq6 0, rq6 1, rq6 2, rq6 3, rq6 4, rq6 5, rq6 6, rq6 7, rq6 8, rq6 9⟩ ?_
  clear hK K m5 sx5 rq5 rq6 sx6 c6 o6 f6 k6 K6 K5 ROW6 e6 xc gb
  try simp only [Act.put, List.setIfInBounds_toArray, List.set_cons_zero, List.set_cons_succ]
  repeat (first
    | (refine' wpT_calm (v := _) (by rfl) (fun W hW => ?_) ?_; rotate_left
       · ((try dsimp only at hW); go_simp; first | done | rfl)
       simp only [Act.put, List.setIfInBounds_toArray, List.set_cons_zero, List.set_cons_succ])
    | (refine' wpT_reads (v := _) (by rfl) ?_ ?_; rotate_left
       · (go_simp; first | done | rfl)
       simp only [Act.put, List.setIfInBounds_toArray, List.set_cons_zero, List.set_cons_succ])
    | (refine wpT_skip (by rfl) rfl ?_; simp only [Act.put, List.setIfInBounds_toArray, List.set_cons_zero, List.set_cons_succ])
    | (refine wpT_does (by rfl) (fun K hK => ?_); go_simp; refine hK _ _ ?_ ?_
       · (trivial)
       clear hK K; try simp only [Act.put, List.setIfInBounds_toArray, List.set_cons_zero, List.set_cons_succ])
    | (refine wpT_last (by rfl) (fun K hK => ?_); go_simp; refine hK _ _ ?_; clear hK K)
    | (refine wpT_nil ?_))
  have e7 : (Value.slice a6 (ln + 2) d6).ownBlock ≠ some b := fun e => (F6.out b e).elim gne (fun h => by have := lt_of_heap RW3.out; omega)
  have HRS := hid (heap_setCell_same w6 b 1 _ _ (.slice a6 (ln + 2) d6) HROW6.out)
  have HAS := hid (ownR_set (i := 1) (u := .slice a6 (ln + 2) d6) OA6.out HN1.out)
  have HLS := hid (ownS_set (i := 1) (u := .slice a6 (ln + 2) d6) O6.out e7)
  have HKS := hid (K7.out.setCell (p := ⟨b, 1, none⟩) (.inl (.inl rfl)) (.slice a6 (ln + 2) d6))
  go_end0
  refine ⟨.slice a1 (ln + 1) c1, .slice a6 (ln + 2) d6, rfl, ?_, fun k hk => (F2.out k hk).imp id (fun h => by omega), fun k hk => (F6.out k hk).imp (fun h => by rw [h]; rfl) (fun h => by have := KD2.out.size; omega), HKS.out⟩
  refine ⟨HRS.out, HAS.out, by unfold addR; rw [HX.out]; exact HLS.out, HN1.out, e7, fun k hk e => (F6.out k e).elim (fun h => HNG.out (by rw [hk, h])) (fun h => by have := (OA3.out.lt k hk).2; omega), fun s hs => ?_, ?_⟩
  · have hs2 : s ∈ R.links ++ [chn (lastOf R) (⟨(ln : Int), t, c, o, e, n, m, x, y, z⟩ : Rc)] := hs
    rw [HX.out] at hs2
    rcases List.mem_append.1 hs2 with h1 | h1
    · exact H.out.h32 s h1
    · rw [List.mem_singleton.1 h1]; exact HXL.out
  · show (R.links ++ [chn (lastOf R) (⟨(ln : Int), t, c, o, e, n, m, x, y, z⟩ : Rc)]).length = (R.all ++ [(⟨(ln : Int), t, c, o, e, n, m, x, y, z⟩ : Rc)]).length + 1
    rw [List.length_append, List.length_append, HHLE.out]
    rfl
end Go.Proofs.Ytpijnpapmdnceaa

namespace Go.Proofs.Ytpijnpapmdnceaa
open Go Go.RowKit

/-- How many are gone. -/
def goneR (R : Rl) : Nat := R.all.length - R.ring.toNat

theorem ReadR.drop {w : World} {a0 : Option Addr} {ln c0 k : Nat} {l : List Rc} (h : ReadR w (.slice a0 ln c0) l) (hln : l.length = ln) (hk : k ≤ ln) (hc : ln ≤ c0) :
    ReadR w (.slice (if c0 = k then a0 else Option.map (fun x => x.add (k * 10)) a0) (ln - k) (c0 - k)) (l.drop k) := by
  by_cases h0 : ln = k
  · subst h0
    rw [Nat.sub_self, List.drop_of_length_le (by omega)]
    exact .inl ⟨_, _, rfl, rfl⟩
  · rcases h with ⟨a, c, hv, rfl⟩ | ⟨g, off, c, hv, hg, hm, hx⟩
    · simp at hln; omega
    · simp only [Value.slice.injEq] at hv
      obtain ⟨rfl, -, rfl⟩ := hv
      rw [if_neg (by omega)]
      refine .inr ⟨g, off + k * 10, c0 - k, ?_, hg, by rw [List.length_drop]; omega, fun j u hu => ?_⟩
      · rw [List.length_drop, hln]
        show Value.slice (some (Addr.add _ _)) _ _ = _
        rw [add_off]
      · rw [flatR_drop, List.getElem?_drop] at hu
        have := hx _ u hu
        rwa [← Nat.add_assoc] at this
theorem sub_own {a0 : Option Addr} {ln c0 k n c : Nat} (i : Nat) (h : (Value.slice (if c0 = k then a0 else Option.map (fun x => x.add (k * 10)) a0) n c).ownBlock = some i) : (Value.slice a0 ln c0).ownBlock = some i := by
  rcases a0 with _ | a
  · simp [Value.ownBlock] at h
  · split at h
    · exact h
    · rw [← h]
      unfold Addr.add
      simp only [Value.ownBlock, Option.map_some]
      split <;> rfl

set_option maxRecDepth 10000 in
set_option maxHeartbeats 1000000 in
theorem rview_any {w : World} {b : Nat} {va vl : Value} {R : Rl} (h : RlAt w b va vl R) (hl : R.all.length ≤ 1000) (hr : 1 ≤ R.ring ∧ R.ring ≤ 16) :
    Calls Try.prog 23 #[.pointer (some ⟨b, 0, none⟩)] w fun e w' =>
      ∃ v, e = .returned (viewV (goneR R) (R.links.getD (goneR R) zero32) v (lastOf R)) ∧ ReadR w' v (R.all.drop (goneR R)) ∧ (∀ k, v.ownBlock = some k → va.ownBlock = some k) ∧ Keep (fun _ => False) w w' := by
  obtain ⟨a0, c0, hv⟩ := h.oa.form
  have hlen := h.len
  obtain ⟨g, d0, hw⟩ := h.ol.block (by omega)
  have H := hid h
  subst hv hw
  have WB := h.lt
  obtain ⟨k, hk⟩ : ∃ k, goneR R = k := ⟨_, rfl⟩
  have hkl : k ≤ R.all.length := by rw [← hk]; unfold goneR; omega
  have hx0 := h.ol.at R.all.length (by omega)
  rw [lastOf_eq R hlen] at hx0
  have hx1 := h.ol.at k (by omega)
  have hx2 : R.links[k]'(by omega) = R.links.getD k zero32 := by
    rw [List.getD_eq_getElem?_getD, List.getElem?_eq_getElem (by omega)]
    rfl
  rw [hx2] at hx1
  obtain ⟨s0, hs0⟩ : ∃ s, lastOf R = s := ⟨_, rfl⟩
  obtain ⟨s1, hs1⟩ : ∃ s, R.links.getD k zero32 = s := ⟨_, rfl⟩
  rw [hs0] at hx0
  rw [hs1] at hx1
  have gl : g < w.heap.size := (h.ol.lt g rfl).2
  have cc : R.all.length ≤ c0 := by
    rcases h.oa with ⟨_, ⟨hh, h0⟩ | ⟨g, cap, cur, hh, _, _, h1, _⟩⟩
    · omega
    · simp only [Value.slice.injEq] at hh
      obtain ⟨_, _, rfl⟩ := hh
      exact h1
  have HR := hid h.oa.reads
  obtain ⟨W0, hW0⟩ : ∃ W0, (w.alloc (.cells #[.int .i64 0, .string ⟨#[]⟩, .slice none 0 0, .string ⟨#[]⟩] 45)) = W0 := ⟨_, rfl⟩
  have K0 : Keep (fun _ => False) w W0 := by rw [← hW0]; exact (Keep.refl _ _).alloc _
  have row0 : W0.heap[w.heap.size]? = some (.cells #[.int .i64 0, .string ⟨#[]⟩, .slice none 0 0, .string ⟨#[]⟩] 45 (0, 0)) := by rw [← hW0]; exact heap_alloc_new w _
  have HW0 := hid hW0
  have HK0 := hid K0
  have HRW := hid row0
  have g0 := (K0.cell (p := ⟨b, 0, none⟩) WB (fun h => h)).trans h.c0
  have g1 := (K0.cell (p := ⟨b, 1, none⟩) WB (fun h => h)).trans h.c1
  have g2 := (K0.cell (p := ⟨b, 2, none⟩) WB (fun h => h)).trans h.c2
  have x0 := (K0.cell (p := ⟨g, R.all.length, none⟩) gl (fun h => h)).trans hx0
  have x1 := (K0.cell (p := ⟨g, k, none⟩) gl (fun h => h)).trans hx1
  obtain ⟨ln, hln⟩ : ∃ ln, R.all.length = ln := ⟨_, rfl⟩
  obtain ⟨rg, hrg⟩ : ∃ rg, R.ring = rg := ⟨_, rfl⟩
  have hk2 : k = ln - rg.toNat := by rw [← hk, ← hln, ← hrg]; rfl
  rw [hrg] at hr g2
  rw [hln] at g0 x0 hl hkl cc HR H
  have hll : R.links.length = ln + 1 := by omega
  rw [hll] at g1 H
  have HK := hid hk
  have HLN := hid hln
  have HS0 := hid hs0
  have HS1 := hid hs1
  rw [hk, hs1, hs0]
  clear h hlen hx0 hx1 hx2 hs0 hs1 hW0 K0 row0 hln hk hll hrg
  go_enter Try.func23, Try.ntmps23
  go_wp2_with fail
  rw [HW0.out]
  refine wp_region_text [0,0,0,0,0,0,0,0,0,0] (fun W => W.cell? ⟨b, 0, none⟩ = some (.slice a0 ln c0) ∧ W.cell? ⟨b, 2, none⟩ = some (.int .i64 rg)) (by kernel_rfl) (by kernel_rfl) ⟨g0, g2⟩ ?_
  repeat (first
    | (refine' wpT_calm (v := _) (by rfl) (fun W hW => ?_) ?_; rotate_left
       · ((try dsimp only at hW); go_simp; first | done | rfl)
       simp only [Act.put, List.setIfInBounds_toArray, List.set_cons_zero, List.set_cons_succ])
    | (refine' wpT_reads (v := _) (by rfl) ?_ ?_; rotate_left
       · (go_simp; first | done | rfl)
       simp only [Act.put, List.setIfInBounds_toArray, List.set_cons_zero, List.set_cons_succ])
    | (refine wpT_skip (by rfl) rfl ?_; simp only [Act.put, List.setIfInBounds_toArray, List.set_cons_zero, List.set_cons_succ])
    | (refine wpT_does (by rfl) (fun K hK => ?_); go_simp; refine hK _ _ ?_ ?_
       · (trivial)
       clear hK K; try simp only [Act.put, List.setIfInBounds_toArray, List.set_cons_zero, List.set_cons_succ])
    | (refine wpT_last (by rfl) (fun K hK => ?_); go_simp; refine hK _ _ ?_; clear hK K)
    | (refine wpT_nil ?_))
  have lni : ln < ln + 1 := by omega
  have lnj : (ln : Int) < (ln : Int) + 1 := by omega
  by_cases hgt : (ln : Int) > rg
  · have hki : (k : Int) = (ln : Int) - rg := by omega
    have hwr : IntKind.i64.wrap ((ln : Int) - rg) = (k : Int) := by rw [IntWalk.i64_in _ ⟨by omega, by omega⟩]; exact hki.symm
    have HKI := hid hki
    clear hki hk2
    go_wp2_with fail
    refine wp_region_text [0,0,0,0,0,0,0,0,0,0,0] (fun W => W.cell? ⟨b, 0, none⟩ = some (.slice a0 ln c0) ∧ W.cell? ⟨b, 2, none⟩ = some (.int .i64 rg)) (by kernel_rfl) (by kernel_rfl) ⟨g0, g2⟩ ?_
    repeat (first
      | (refine' wpT_calm (v := _) (by rfl) (fun W hW => ?_) ?_; rotate_left
         · ((try dsimp only at hW); go_simp; first | done | rfl)
         simp only [Act.put, List.setIfInBounds_toArray, List.set_cons_zero, List.set_cons_succ])
      | (refine' wpT_reads (v := _) (by rfl) ?_ ?_; rotate_left
         · (go_simp; first | done | rfl)
         simp only [Act.put, List.setIfInBounds_toArray, List.set_cons_zero, List.set_cons_succ])
      | (refine wpT_skip (by rfl) rfl ?_; simp only [Act.put, List.setIfInBounds_toArray, List.set_cons_zero, List.set_cons_succ])
      | (refine wpT_does (by rfl) (fun K hK => ?_); go_simp; refine hK _ _ ?_ ?_
         · (trivial)
         clear hK K; try simp only [Act.put, List.setIfInBounds_toArray, List.set_cons_zero, List.set_cons_succ])
      | (refine wpT_last (by rfl) (fun K hK => ?_); go_simp; refine hK _ _ ?_; clear hK K)
      | (refine wpT_nil ?_))
    go_wp2_with fail
    have kj : (k : Int) < (ln : Int) + 1 := by omega
    have kl : (k : Int) ≤ (ln : Int) := by omega
    refine wp_region_text [0,0,0,0,0,0,0,0,0,0,0,0,0,0,0,0,0,0,0,0,0,0,0,0,0,0,3] (fun W => W.cell? ⟨b, 0, none⟩ = some (.slice a0 ln c0) ∧ W.cell? ⟨b, 1, none⟩ = some (.slice (some ⟨g, 0, none⟩) (ln + 1) d0) ∧ W.cell? ⟨g, k, none⟩ = some (.string (bya s1)) ∧ W.cell? ⟨g, ln, none⟩ = some (.string (bya s0))) (by kernel_rfl) (by kernel_rfl) ⟨g0, g1, x1, x0⟩ ?_
    have HKE : Hid (Keep (fun _ => False) w W0.drew.drew.drew) := hid HK0.out.drew.drew.drew
    have HRE : Hid ((W0.drew.drew.drew).heap[w.heap.size]? = some (.cells #[.int .i64 0, .string ⟨#[]⟩, .slice none 0 0, .string ⟨#[]⟩] 45 (0, 0))) := hid HRW.out
    obtain ⟨E, hE⟩ : ∃ E, W0.drew.drew.drew = E := ⟨_, rfl⟩
    rw [hE] at HKE HRE ⊢
    have g0 : E.cell? ⟨b, 0, none⟩ = some (.slice a0 ln c0) := by rw [← hE]; exact g0
    have g1 : E.cell? ⟨b, 1, none⟩ = some (.slice (some ⟨g, 0, none⟩) (ln + 1) d0) := by rw [← hE]; exact g1
    have x1 : E.cell? ⟨g, k, none⟩ = some (.string (bya s1)) := by rw [← hE]; exact x1
    have x0 : E.cell? ⟨g, ln, none⟩ = some (.string (bya s0)) := by rw [← hE]; exact x0
    have row0 := HRE.out
    have q0 : E.cell? ⟨w.heap.size, 0, none⟩ = some (.int .i64 0) := by rw [cell_of_row _ _ 0 _ _ _ row0]; rfl
    have q1 : E.cell? ⟨w.heap.size, 1, none⟩ = some (.string ⟨#[]⟩) := by rw [cell_of_row _ _ 1 _ _ _ row0]; rfl
    have q2 : E.cell? ⟨w.heap.size, 2, none⟩ = some (.slice none 0 0) := by rw [cell_of_row _ _ 2 _ _ _ row0]; rfl
    have q3 : E.cell? ⟨w.heap.size, 3, none⟩ = some (.string ⟨#[]⟩) := by rw [cell_of_row _ _ 3 _ _ _ row0]; rfl
    have f0 := frozen_of_row E w.heap.size 0 _ _ row0
    have f1 := frozen_of_row E w.heap.size 1 _ _ row0
    have f2 := frozen_of_row E w.heap.size 2 _ _ row0
    have f3 := frozen_of_row E w.heap.size 3 _ _ row0
    clear row0 hE
    repeat (first
      | (refine' wpT_calm (v := _) (by rfl) (fun W hW => ?_) ?_; rotate_left
         · ((try dsimp only at hW); go_simp; first | done | rfl)
         simp only [Act.put, List.setIfInBounds_toArray, List.set_cons_zero, List.set_cons_succ])
      | (refine' wpT_reads (v := _) (by rfl) ?_ ?_; rotate_left
         · (go_simp; first | done | rfl)
         simp only [Act.put, List.setIfInBounds_toArray, List.set_cons_zero, List.set_cons_succ])
      | (refine wpT_skip (by rfl) rfl ?_; simp only [Act.put, List.setIfInBounds_toArray, List.set_cons_zero, List.set_cons_succ])
      | (refine wpT_does (by rfl) (fun K hK => ?_); go_simp; refine hK _ _ ?_ ?_
         · (trivial)
         clear hK K; try simp only [Act.put, List.setIfInBounds_toArray, List.set_cons_zero, List.set_cons_succ])
      | (refine wpT_last (by rfl) (fun K hK => ?_); go_simp; refine hK _ _ ?_; clear hK K)
      | (refine wpT_nil ?_))
    obtain ⟨A, hA⟩ : ∃ A, (if c0 = k then a0 else Option.map (fun x => x.add (k * 10)) a0) = A := ⟨_, rfl⟩
    have HRD : Hid (ReadR w (.slice A (ln - k) (c0 - k)) (R.all.drop k)) := hid (by rw [← hA]; exact HR.out.drop HLN.out hkl cc)
    have HOW : Hid (∀ i, (Value.slice A (ln - k) (c0 - k)).ownBlock = some i → (Value.slice a0 ln c0).ownBlock = some i) := hid (by rw [← hA]; exact fun i hi => sub_own i hi)
    try rw [hA]
    clear hA
    have HE := hid (heap_setCell_same _ _ 3 _ _ (.string (bya s0)) (heap_setCell_same _ _ 2 _ _ (.slice A (ln - k) (c0 - k)) (heap_setCell_same _ _ 1 _ _ (.string (bya s1)) (heap_setCell_same E _ 0 _ _ (.int .i64 k) HRE.out))))
    have KE := hid ((((HKE.out.setCell (p := ⟨w.heap.size, 0, none⟩) (.inr (Nat.le_refl _)) (.int .i64 k)).setCell (p := ⟨w.heap.size, 1, none⟩) (.inr (Nat.le_refl _)) (.string (bya s1))).setCell (p := ⟨w.heap.size, 2, none⟩) (.inr (Nat.le_refl _)) (.slice A (ln - k) (c0 - k))).setCell (p := ⟨w.heap.size, 3, none⟩) (.inr (Nat.le_refl _)) (.string (bya s0)))
    go_wp2_with fail
    refine bodyPost_ret (results_cell_row rfl _ _ w.heap.size _ _ _ _ rfl HE.out Try.underlying45 rfl (by kernel_rfl)) rfl ?_
    exact ⟨_, rfl, HRD.out.keep KE.out (fun _ _ h => h), fun i hi => by rw [HLN.out]; exact HOW.out i hi, KE.out⟩
  · obtain rfl : k = 0 := by omega
    clear hk2
    go_wp2_with fail
    refine wp_region_text [0,0,0,0,0,0,0,0,0,0,0,0,0,0,0,0,0,0,0,0,0,0,0,0,0,0,3] (fun W => W.cell? ⟨b, 0, none⟩ = some (.slice a0 ln c0) ∧ W.cell? ⟨b, 1, none⟩ = some (.slice (some ⟨g, 0, none⟩) (ln + 1) d0) ∧ W.cell? ⟨g, 0, none⟩ = some (.string (bya s1)) ∧ W.cell? ⟨g, ln, none⟩ = some (.string (bya s0))) (by kernel_rfl) (by kernel_rfl) ⟨g0, g1, x1, x0⟩ ?_
    have HKE : Hid (Keep (fun _ => False) w W0.drew.drew) := hid HK0.out.drew.drew
    have HRE : Hid ((W0.drew.drew).heap[w.heap.size]? = some (.cells #[.int .i64 0, .string ⟨#[]⟩, .slice none 0 0, .string ⟨#[]⟩] 45 (0, 0))) := hid HRW.out
    obtain ⟨E, hE⟩ : ∃ E, W0.drew.drew = E := ⟨_, rfl⟩
    rw [hE] at HKE HRE ⊢
    have g0 : E.cell? ⟨b, 0, none⟩ = some (.slice a0 ln c0) := by rw [← hE]; exact g0
    have g1 : E.cell? ⟨b, 1, none⟩ = some (.slice (some ⟨g, 0, none⟩) (ln + 1) d0) := by rw [← hE]; exact g1
    have x1 : E.cell? ⟨g, 0, none⟩ = some (.string (bya s1)) := by rw [← hE]; exact x1
    have x0 : E.cell? ⟨g, ln, none⟩ = some (.string (bya s0)) := by rw [← hE]; exact x0
    have row0 := HRE.out
    have q0 : E.cell? ⟨w.heap.size, 0, none⟩ = some (.int .i64 0) := by rw [cell_of_row _ _ 0 _ _ _ row0]; rfl
    have q1 : E.cell? ⟨w.heap.size, 1, none⟩ = some (.string ⟨#[]⟩) := by rw [cell_of_row _ _ 1 _ _ _ row0]; rfl
    have q2 : E.cell? ⟨w.heap.size, 2, none⟩ = some (.slice none 0 0) := by rw [cell_of_row _ _ 2 _ _ _ row0]; rfl
    have q3 : E.cell? ⟨w.heap.size, 3, none⟩ = some (.string ⟨#[]⟩) := by rw [cell_of_row _ _ 3 _ _ _ row0]; rfl
    have f0 := frozen_of_row E w.heap.size 0 _ _ row0
    have f1 := frozen_of_row E w.heap.size 1 _ _ row0
    have f2 := frozen_of_row E w.heap.size 2 _ _ row0
    have f3 := frozen_of_row E w.heap.size 3 _ _ row0
    clear row0 hE
    repeat (first
      | (refine' wpT_calm (v := _) (by rfl) (fun W hW => ?_) ?_; rotate_left
         · ((try dsimp only at hW); go_simp; first | done | rfl)
         simp only [Act.put, List.setIfInBounds_toArray, List.set_cons_zero, List.set_cons_succ])
      | (refine' wpT_reads (v := _) (by rfl) ?_ ?_; rotate_left
         · (go_simp; first | done | rfl)
         simp only [Act.put, List.setIfInBounds_toArray, List.set_cons_zero, List.set_cons_succ])
      | (refine wpT_skip (by rfl) rfl ?_; simp only [Act.put, List.setIfInBounds_toArray, List.set_cons_zero, List.set_cons_succ])
      | (refine wpT_does (by rfl) (fun K hK => ?_); go_simp; refine hK _ _ ?_ ?_
         · (trivial)
         clear hK K; try simp only [Act.put, List.setIfInBounds_toArray, List.set_cons_zero, List.set_cons_succ])
      | (refine wpT_last (by rfl) (fun K hK => ?_); go_simp; refine hK _ _ ?_; clear hK K)
      | (refine wpT_nil ?_))
    obtain ⟨A, hA⟩ : ∃ A, a0 = A := ⟨_, rfl⟩
    have HRD : Hid (ReadR w (.slice A (ln) (c0)) (R.all.drop 0)) := hid (by rw [← hA]; exact HR.out)
    have HOW : Hid (∀ i, (Value.slice A (ln) (c0)).ownBlock = some i → (Value.slice a0 ln c0).ownBlock = some i) := hid (by rw [← hA]; exact fun i hi => hi)
    try rw [hA]
    clear hA
    have HE := hid (heap_setCell_same _ _ 3 _ _ (.string (bya s0)) (heap_setCell_same _ _ 2 _ _ (.slice A (ln) (c0)) (heap_setCell_same _ _ 1 _ _ (.string (bya s1)) (heap_setCell_same E _ 0 _ _ (.int .i64 0) HRE.out))))
    have KE := hid ((((HKE.out.setCell (p := ⟨w.heap.size, 0, none⟩) (.inr (Nat.le_refl _)) (.int .i64 0)).setCell (p := ⟨w.heap.size, 1, none⟩) (.inr (Nat.le_refl _)) (.string (bya s1))).setCell (p := ⟨w.heap.size, 2, none⟩) (.inr (Nat.le_refl _)) (.slice A (ln) (c0))).setCell (p := ⟨w.heap.size, 3, none⟩) (.inr (Nat.le_refl _)) (.string (bya s0)))
    go_wp2_with fail
    refine bodyPost_ret (results_cell_row rfl _ _ w.heap.size _ _ _ _ rfl HE.out Try.underlying45 rfl (by kernel_rfl)) rfl ?_
    exact ⟨_, rfl, HRD.out.keep KE.out (fun _ _ h => h), fun i hi => by rw [HLN.out]; exact HOW.out i hi, KE.out⟩
end Go.Proofs.Ytpijnpapmdnceaa

namespace Go.Proofs.Ytpijnpapmdnceaa
open Go Go.RowKit

set_option maxRecDepth 10000 in
set_option maxHeartbeats 1000000 in
theorem rverify_any {w : World} {v : Value} {l : List Rc} (h : ReadR w v l) (d : Int) (base head : List B8) :
    Calls Try.prog 26 #[viewV d base v head] w fun e w' => e = .returned (.int .i64 (ver d base l head)) ∧ Keep (fun _ => False) w w' := by
  obtain ⟨a0, c0, hv⟩ := h.form
  subst hv
  obtain ⟨n, hn⟩ : ∃ n, l.length = n := ⟨_, rfl⟩
  rw [hn] at h ⊢
  have H := hid h
  have HN := hid hn
  obtain ⟨B, hB⟩ : ∃ B, bya base = B := ⟨_, rfl⟩
  obtain ⟨E, hE⟩ : ∃ E, bya head = E := ⟨_, rfl⟩
  have sB : B.size = base.length := by rw [← hB, bya_size]
  have sE : E.size = head.length := by rw [← hE, bya_size]
  have HB := hid hB
  have HE := hid hE
  unfold viewV
  rw [hB, hE]
  clear h hn hB hE
  obtain ⟨W0, hW0⟩ : ∃ W0, w.alloc (.cells #[.int .i64 d, .string B, .slice a0 n c0, .string E] 45) = W0 := ⟨_, rfl⟩
  have K0 : Keep (fun _ => False) w W0 := by rw [← hW0]; exact (Keep.refl _ _).alloc _
  have S0 : w.heap.size < W0.heap.size := by rw [← hW0, World.size_alloc]; exact Nat.lt_succ_self _
  have row0 : W0.heap[w.heap.size]? = some (.cells #[.int .i64 d, .string B, .slice a0 n c0, .string E] 45 (0, 0)) := by rw [← hW0]; exact heap_alloc_new w _
  have HW0 := hid hW0
  have HK0 := hid K0
  have HS0 := hid S0
  have HR0 := hid row0
  have q0 : W0.cell? ⟨w.heap.size, 0, none⟩ = some (.int .i64 d) := by rw [cell_of_row _ _ 0 _ _ _ row0]; rfl
  have q1 : W0.cell? ⟨w.heap.size, 1, none⟩ = some (.string B) := by rw [cell_of_row _ _ 1 _ _ _ row0]; rfl
  have q2 : W0.cell? ⟨w.heap.size, 2, none⟩ = some (.slice a0 n c0) := by rw [cell_of_row _ _ 2 _ _ _ row0]; rfl
  have q3 : W0.cell? ⟨w.heap.size, 3, none⟩ = some (.string E) := by rw [cell_of_row _ _ 3 _ _ _ row0]; rfl
  clear hW0 K0 S0 row0
  go_enter Try.func26, Try.ntmps26
  by_cases b1 : d < 0
  · have hv1 : ver d base l head = 1 := by unfold ver; rw [if_pos (.inl b1)]
    have HV := hid hv1
    clear hv1 sB sE
    go_wp2_with fail
    go_ret
    exact ⟨by rw [HV.out]; rfl, by rw [HW0.out]; exact HK0.out⟩
  have b1' : 0 ≤ d := by omega
  by_cases b2 : B.size ≠ 32
  · have hv1 : ver d base l head = 1 := by unfold ver; rw [if_pos (.inr (.inl (by rw [← sB]; exact b2)))]
    have HV := hid hv1
    have b2' : ((B.size : Int) != 32) = true := by simp; omega
    clear hv1 sB sE b2
    go_wp2_with fail
    go_ret
    exact ⟨by rw [HV.out]; rfl, by rw [HW0.out]; exact HK0.out⟩
  have b2' : ((B.size : Int) != 32) = false := by simp; omega
  by_cases b3 : E.size ≠ 32
  · have hv1 : ver d base l head = 1 := by unfold ver; rw [if_pos (.inr (.inr (.inl (by rw [← sE]; exact b3))))]
    have HV := hid hv1
    have b3' : ((E.size : Int) != 32) = true := by simp; omega
    clear hv1 sB sE b2 b3
    go_wp2_with fail
    go_ret
    exact ⟨by rw [HV.out]; rfl, by rw [HW0.out]; exact HK0.out⟩
  have b3' : ((E.size : Int) != 32) = false := by simp; omega
  by_cases b4 : (n : Int) > 16
  · have hv1 : ver d base l head = 1 := by unfold ver; rw [if_pos (.inr (.inr (.inr (by rw [HN.out]; omega))))]
    have HV := hid hv1
    clear hv1 sB sE b2 b3
    go_wp2_with fail
    go_ret
    exact ⟨by rw [HV.out]; rfl, by rw [HW0.out]; exact HK0.out⟩
  have hv0 : ver d base l head = if d = 0 ∧ base ≠ zero32 then 19 else if seqsOk d 0 l = false then 19 else if chns base l ≠ head then 19 else 0 := by
    unfold ver
    rw [if_neg (fun h => by rcases h with h | h | h | h <;> first | omega | (rw [HN.out] at h; omega))]
  have HV := hid hv0
  have HSB : Hid (base.length = 32) := hid (by omega)
  clear hv0 sB sE b2 b3
  have b4' : n ≤ 16 := by omega
  have HQ0 := hid q0
  have HQ1 := hid q1
  have HQ3 := hid q3
  go_wp2_with fail
  rw [HW0.out]
  go_loopw [3] (fun iv wr => ∃ (i : Nat), i ≤ n ∧ (∀ j (hj : j < l.length), j < i → seqOk d j l[j] = true) ∧ Keep (fun _ => False) W0 wr ∧ iv = .int .i64 i) (fun iv _ => n - (intOf iv).toNat)
  case atStart => exact ⟨0, by omega, fun j _ h => absurd h (Nat.not_lt_zero j), Keep.refl _ _, rfl⟩
  case round =>
    obtain ⟨i, hi, hs, hK, rfl⟩ := hrel
    have u0 := (hK.cell (p := ⟨w.heap.size, 0, none⟩) HS0.out (fun h => h)).trans q0
    have u1 := (hK.cell (p := ⟨w.heap.size, 1, none⟩) HS0.out (fun h => h)).trans q1
    have u2 := (hK.cell (p := ⟨w.heap.size, 2, none⟩) HS0.out (fun h => h)).trans q2
    have u3 := (hK.cell (p := ⟨w.heap.size, 3, none⟩) HS0.out (fun h => h)).trans q3
    have HS := hid hs
    have KK := hid hK
    clear hs hK q0 q1 q2 q3
    by_cases hlt : i < n
    · have hli : (i : Int) < n := by omega
      have hl : i < l.length := by rw [HN.out]; exact hlt
      rcases (H.out.keep (HK0.out.trans KK.out) (fun _ _ h => h)) with ⟨a1, c1, hv1, h0⟩ | ⟨g, off, c1, hv1, hg, hm, hx⟩
      · rw [h0] at hl; exact absurd hl (Nat.not_lt_zero i)
      simp only [Value.slice.injEq] at hv1
      obtain ⟨rfl, -, rfl⟩ := hv1
      obtain ⟨x, hq⟩ : ∃ x, l[i] = x := ⟨_, rfl⟩
      have x0 : wr.cell? ⟨g, off + i * 10, none⟩ = some (.int .i64 x.s) := by
        have h1 := flatR_get l i 0 hl (by decide)
        rw [hq, Nat.add_zero] at h1
        exact hx _ _ h1
      have HQ := hid hq
      clear hq hx hm u1 u3
      have d0 : wr.drew.cell? ⟨w.heap.size, 0, none⟩ = some (.int .i64 d) := u0
      have d2 : wr.drew.cell? ⟨w.heap.size, 2, none⟩ = some (.slice (some ⟨g, off, none⟩) n c0) := u2
      have dx : wr.drew.cell? ⟨g, off + i * 10, none⟩ = some (.int .i64 x.s) := x0
      have KD := hid (KK.out.drew)
      go_wp2_with fail
      refine wp_region_text [0,0,0,0,0,0,0,0,0,0,0,0,0,0,0,0,0,0,0,0,0] (fun W => W.cell? ⟨w.heap.size, 0, none⟩ = some (.int .i64 d) ∧ W.cell? ⟨w.heap.size, 2, none⟩ = some (.slice (some ⟨g, off, none⟩) n c0) ∧ W.cell? ⟨g, off + i * 10, none⟩ = some (.int .i64 x.s)) (by kernel_rfl) (by kernel_rfl) ⟨d0, d2, dx⟩ ?_
      clear d0 d2 dx u0 u2 x0
      by_cases k1 : x.s < (i : Int)
      · have hk2 : seqOk d i x = false := by simp [seqOk, k1]
        have HE2 : Hid (ver d base l head = 19) := hid (by rw [HV.out, if_pos (seqs_not d l 0 i hl (by rw [Nat.zero_add, HQ.out]; exact hk2))]; split <;> rfl)
        have kd : decide (x.s < (i : Int)) = true := decide_eq_true k1
        clear hk2
        repeat (first
          | (refine' wpT_calm (v := _) (by rfl) (fun W hW => ?_) ?_; rotate_left
             · ((try dsimp only at hW); go_simp; first | done | rfl)
             simp only [Act.put, List.setIfInBounds_toArray, List.set_cons_zero, List.set_cons_succ])
          | (refine' wpT_reads (v := _) (by rfl) ?_ ?_; rotate_left
             · (go_simp; first | done | rfl)
             simp only [Act.put, List.setIfInBounds_toArray, List.set_cons_zero, List.set_cons_succ])
          | (refine wpT_skip (by rfl) rfl ?_; simp only [Act.put, List.setIfInBounds_toArray, List.set_cons_zero, List.set_cons_succ])
          | (refine wpT_does (by rfl) (fun K hK => ?_); go_simp; refine hK _ _ ?_ ?_
             · (trivial)
             clear hK K; try simp only [Act.put, List.setIfInBounds_toArray, List.set_cons_zero, List.set_cons_succ])
          | (refine wpT_last (by rfl) (fun K hK => ?_); go_simp; refine hK _ _ ?_; clear hK K)
          | (refine wpT_nil ?_))
        go_wp2_with fail
        go_ret
        exact ⟨by rw [HE2.out]; rfl, HK0.out.trans KD.out⟩
      · have kd : decide (x.s < (i : Int)) = false := decide_eq_false k1
        have k3 : (i : Int) ≤ x.s := by omega
        by_cases k2 : IntKind.i64.wrap (x.s - (i : Int)) = d
        · have hk2 : seqOk d i x = true := by simp [seqOk, k1, k2]
          have HKK := hid hk2
          have k4 : (wrap64 (x.s - (i : Int)) != d) = false := by rw [bne_eq_false_iff_eq, ← IntWalk.i64_left]; exact k2
          have k5 : (IntKind.i64.wrap (x.s - (i : Int)) != d) = false := by rw [bne_eq_false_iff_eq]; exact k2
          clear hk2 k2
          repeat (first
            | (refine' wpT_calm (v := _) (by rfl) (fun W hW => ?_) ?_; rotate_left
               · ((try dsimp only at hW); go_simp; first | done | rfl)
               simp only [Act.put, List.setIfInBounds_toArray, List.set_cons_zero, List.set_cons_succ])
            | (refine' wpT_reads (v := _) (by rfl) ?_ ?_; rotate_left
               · (go_simp; first | done | rfl)
               simp only [Act.put, List.setIfInBounds_toArray, List.set_cons_zero, List.set_cons_succ])
            | (refine wpT_skip (by rfl) rfl ?_; simp only [Act.put, List.setIfInBounds_toArray, List.set_cons_zero, List.set_cons_succ])
            | (refine wpT_does (by rfl) (fun K hK => ?_); go_simp; refine hK _ _ ?_ ?_
               · (trivial)
               clear hK K; try simp only [Act.put, List.setIfInBounds_toArray, List.set_cons_zero, List.set_cons_succ])
            | (refine wpT_last (by rfl) (fun K hK => ?_); go_simp; refine hK _ _ ?_; clear hK K)
            | (refine wpT_nil ?_))
          go_wp2_with fail
          refine ⟨⟨i + 1, by omega, fun j hj hji => ?_, KD.out, by go_num⟩, by simp [intOf]; omega⟩
          by_cases hje : j = i
          · subst hje; rw [HQ.out]; exact HKK.out
          · exact HS.out j hj (by omega)
        · have hk2 : seqOk d i x = false := by simp [seqOk, k1, k2]
          have HE2 : Hid (ver d base l head = 19) := hid (by rw [HV.out, if_pos (seqs_not d l 0 i hl (by rw [Nat.zero_add, HQ.out]; exact hk2))]; split <;> rfl)
          have k4 : (wrap64 (x.s - (i : Int)) != d) = true := by rw [bne_iff_ne, ← IntWalk.i64_left]; exact k2
          have k5 : (IntKind.i64.wrap (x.s - (i : Int)) != d) = true := by rw [bne_iff_ne]; exact k2
          clear hk2 k2
          repeat (first
            | (refine' wpT_calm (v := _) (by rfl) (fun W hW => ?_) ?_; rotate_left
               · ((try dsimp only at hW); go_simp; first | done | rfl)
               simp only [Act.put, List.setIfInBounds_toArray, List.set_cons_zero, List.set_cons_succ])
            | (refine' wpT_reads (v := _) (by rfl) ?_ ?_; rotate_left
               · (go_simp; first | done | rfl)
               simp only [Act.put, List.setIfInBounds_toArray, List.set_cons_zero, List.set_cons_succ])
            | (refine wpT_skip (by rfl) rfl ?_; simp only [Act.put, List.setIfInBounds_toArray, List.set_cons_zero, List.set_cons_succ])
            | (refine wpT_does (by rfl) (fun K hK => ?_); go_simp; refine hK _ _ ?_ ?_
               · (trivial)
               clear hK K; try simp only [Act.put, List.setIfInBounds_toArray, List.set_cons_zero, List.set_cons_succ])
            | (refine wpT_last (by rfl) (fun K hK => ?_); go_simp; refine hK _ _ ?_; clear hK K)
            | (refine wpT_nil ?_))
          go_wp2_with fail
          go_ret
          exact ⟨by rw [HE2.out]; rfl, HK0.out.trans KD.out⟩
    · obtain rfl : i = n := by omega
      have sq : seqsOk d 0 l = true := seqs_all d l 0 (fun j hj => by rw [Nat.zero_add]; exact HS.out j hj (by rw [← HN.out]; exact hj))
      have HV2 : Hid (ver d base l head = if d = 0 ∧ base ≠ zero32 then 19 else if chns base l ≠ head then 19 else 0) := hid (by rw [HV.out, sq, if_neg (c := (true = false)) (by simp)])
      have HRR := hid (H.out.keep (HK0.out.trans KK.out) (fun _ _ h => h))
      obtain ⟨h, hh⟩ : ∃ h, chns base l = h := ⟨_, rfl⟩
      have EB : ((bya h).toList == E.toList) = decide (h = head) := by rw [← HE.out]; exact bya_beq _ _
      have HH := hid hh
      have BX : w.heap.size < wr.heap.size := Nat.lt_of_lt_of_le HS0.out KK.out.size
      clear sq hh
      by_cases b5 : d = 0
      · subst b5
        have d0 : wr.drew.cell? ⟨w.heap.size, 0, none⟩ = some (.int .i64 0) := u0
        have d1 : wr.drew.cell? ⟨w.heap.size, 1, none⟩ = some (.string B) := u1
        have d2 : wr.drew.cell? ⟨w.heap.size, 2, none⟩ = some (.slice a0 i c0) := u2
        have d3 : wr.drew.cell? ⟨w.heap.size, 3, none⟩ = some (.string E) := u3
        go_wp2_with fail
        refine wp_region_text [0,0,0,0,0,0,2,2,0,0,0,0,0,0,0,2,0,0,0,0] (fun W => W.cell? ⟨w.heap.size, 0, none⟩ = some (.int .i64 0) ∧ W.cell? ⟨w.heap.size, 1, none⟩ = some (.string B) ∧ W.cell? ⟨w.heap.size, 2, none⟩ = some (.slice a0 i c0) ∧ W.cell? ⟨w.heap.size, 3, none⟩ = some (.string E)) (by kernel_rfl) (by kernel_rfl) ⟨d0, d1, d2, d3⟩ ?_
        repeat (first
          | (refine' wpT_calm (v := _) (by rfl) (fun W hW => ?_) ?_; rotate_left
             · ((try dsimp only at hW); go_simp; first | done | rfl)
             simp only [Act.put, List.setIfInBounds_toArray, List.set_cons_zero, List.set_cons_succ])
          | (refine' wpT_reads (v := _) (by rfl) ?_ ?_; rotate_left
             · (go_simp; first | done | rfl)
             simp only [Act.put, List.setIfInBounds_toArray, List.set_cons_zero, List.set_cons_succ])
          | (refine wpT_skip (by rfl) rfl ?_; simp only [Act.put, List.setIfInBounds_toArray, List.set_cons_zero, List.set_cons_succ])
          | (refine wpT_does (by rfl) (fun K hK => ?_); go_simp; refine hK _ _ ?_ ?_
             · (trivial)
             clear hK K; try simp only [Act.put, List.setIfInBounds_toArray, List.set_cons_zero, List.set_cons_succ])
          | (refine wpT_last (by rfl) (fun K hK => ?_); go_simp; refine hK _ _ ?_; clear hK K)
          | (refine wpT_nil ?_))
        have KD := hid (KK.out.drew)
        have BD : w.heap.size < wr.drew.heap.size := BX
        have HRD := hid (HRR.out.keep ((Keep.refl (fun _ => False) wr).drew) (fun _ _ h => h))
        obtain ⟨D, hD⟩ : ∃ D, wr.drew = D := ⟨_, rfl⟩
        rw [hD] at d0 d1 d2 d3 KD BD HRD ⊢
        clear hD u0 u1 u2 u3 BX HRR
        refine wpT_does (by rfl) (fun K hK => ?_)
        refine wp_make_bytes _ _ _ rfl 32 32 rfl rfl (by decide) (by decide) ?_
        intro w1 o1 k1
        have e0 := (k1.cell (p := ⟨w.heap.size, 0, none⟩) BD (fun h => h)).trans d0
        have e1 := (k1.cell (p := ⟨w.heap.size, 1, none⟩) BD (fun h => h)).trans d1
        have e2 := (k1.cell (p := ⟨w.heap.size, 2, none⟩) BD (fun h => h)).trans d2
        have e3 := (k1.cell (p := ⟨w.heap.size, 3, none⟩) BD (fun h => h)).trans d3
        refine hK _ _ ⟨e0, e1, e2, e3⟩ ?_
        clear hK K d0 d1 d2 d3
        try simp only [Act.put, List.setIfInBounds_toArray, List.set_cons_zero, List.set_cons_succ]
        obtain ⟨Z, hZ⟩ : ∃ Z, bya zero32 = Z := ⟨_, rfl⟩
        have CV : (convert 22 9 (.slice (some ⟨D.heap.size, 0, none⟩) 32 32)).run Try.prog w1 = .ok (.string Z) w1 := by rw [← hZ]; exact bytes_conv o1.reads
        have ZB : (B.toList == Z.toList) = decide (base = zero32) := by rw [← HB.out, ← hZ]; exact bya_beq _ _
        have K1 := hid (KD.out.trans k1)
        have HR1 := hid (HRD.out.keep k1 (fun _ _ h => h))
        clear hZ o1 k1 KD HRD
        refine wpT_does (by rfl) (fun K hK => ?_)
        go_simp
        refine hK _ _ ⟨e0, e1, e2, e3⟩ ?_
        clear hK K CV
        try simp only [Act.put, List.setIfInBounds_toArray, List.set_cons_zero, List.set_cons_succ]
        by_cases b6 : base = zero32
        · have HV3 : Hid (ver 0 base l head = if chns base l ≠ head then 19 else 0) := hid (by rw [HV2.out, if_neg (fun h => h.2 b6)])
          rw [decide_eq_true b6] at ZB
          clear b6
          repeat (first
            | (refine' wpT_calm (v := _) (by rfl) (fun W hW => ?_) ?_; rotate_left
               · ((try dsimp only at hW); go_simp; first | done | rfl)
               simp only [Act.put, List.setIfInBounds_toArray, List.set_cons_zero, List.set_cons_succ])
            | (refine' wpT_reads (v := _) (by rfl) ?_ ?_; rotate_left
               · (go_simp; first | done | rfl)
               simp only [Act.put, List.setIfInBounds_toArray, List.set_cons_zero, List.set_cons_succ])
            | (refine wpT_skip (by rfl) rfl ?_; simp only [Act.put, List.setIfInBounds_toArray, List.set_cons_zero, List.set_cons_succ])
            | (refine wpT_does (by rfl) (fun K hK => ?_); go_simp; refine hK _ _ ?_ ?_
               · (trivial)
               clear hK K; try simp only [Act.put, List.setIfInBounds_toArray, List.set_cons_zero, List.set_cons_succ])
            | (refine wpT_last (by rfl) (fun K hK => ?_); go_simp; refine hK _ _ ?_; clear hK K)
            | (refine wpT_nil ?_))
          refine wpT_does (by rfl) (fun K hK => ?_)
          go_simp
          rw [← HB.out]
          refine (rchain_any HR1.out (by rw [HN.out]; omega) base HSB.out).mono ?_
          rintro _ w2 ⟨rfl, k2⟩
          have g0 := (k2.cell (p := ⟨w.heap.size, 0, none⟩) (World.block_lt_of_cell? _ _ e0) (fun h => h)).trans e0
          have g1 := (k2.cell (p := ⟨w.heap.size, 1, none⟩) (World.block_lt_of_cell? _ _ e1) (fun h => h)).trans e1
          have g2 := (k2.cell (p := ⟨w.heap.size, 2, none⟩) (World.block_lt_of_cell? _ _ e2) (fun h => h)).trans e2
          have g3 := (k2.cell (p := ⟨w.heap.size, 3, none⟩) (World.block_lt_of_cell? _ _ e3) (fun h => h)).trans e3
          have K2 := hid (K1.out.trans k2)
          refine hK _ _ ⟨g0, g1, g2, g3⟩ ?_
          clear hK K e0 e1 e2 e3 k2
          try simp only [Act.put, List.setIfInBounds_toArray, List.set_cons_zero, List.set_cons_succ]
          rw [HB.out, HH.out]
          by_cases he : h = head
          · have HV4 : Hid (ver 0 base l head = 0) := hid (by rw [HV3.out, HH.out, if_neg (fun k => k he)])
            rw [decide_eq_true he] at EB
            clear he
            repeat (first
              | (refine' wpT_calm (v := _) (by rfl) (fun W hW => ?_) ?_; rotate_left
                 · ((try dsimp only at hW); go_simp; first | done | rfl)
                 simp only [Act.put, List.setIfInBounds_toArray, List.set_cons_zero, List.set_cons_succ])
              | (refine' wpT_reads (v := _) (by rfl) ?_ ?_; rotate_left
                 · (go_simp; first | done | rfl)
                 simp only [Act.put, List.setIfInBounds_toArray, List.set_cons_zero, List.set_cons_succ])
              | (refine wpT_skip (by rfl) rfl ?_; simp only [Act.put, List.setIfInBounds_toArray, List.set_cons_zero, List.set_cons_succ])
              | (refine wpT_does (by rfl) (fun K hK => ?_); go_simp; refine hK _ _ ?_ ?_
                 · (trivial)
                 clear hK K; try simp only [Act.put, List.setIfInBounds_toArray, List.set_cons_zero, List.set_cons_succ])
              | (refine wpT_last (by rfl) (fun K hK => ?_); go_simp; refine hK _ _ ?_; clear hK K)
              | (refine wpT_nil ?_))
            go_wp2_with fail
            go_ret
            exact ⟨by rw [HV4.out]; rfl, HK0.out.trans K2.out⟩
          · have HV4 : Hid (ver 0 base l head = 19) := hid (by rw [HV3.out, HH.out, if_pos he])
            rw [decide_eq_false he] at EB
            clear he
            repeat (first
              | (refine' wpT_calm (v := _) (by rfl) (fun W hW => ?_) ?_; rotate_left
                 · ((try dsimp only at hW); go_simp; first | done | rfl)
                 simp only [Act.put, List.setIfInBounds_toArray, List.set_cons_zero, List.set_cons_succ])
              | (refine' wpT_reads (v := _) (by rfl) ?_ ?_; rotate_left
                 · (go_simp; first | done | rfl)
                 simp only [Act.put, List.setIfInBounds_toArray, List.set_cons_zero, List.set_cons_succ])
              | (refine wpT_skip (by rfl) rfl ?_; simp only [Act.put, List.setIfInBounds_toArray, List.set_cons_zero, List.set_cons_succ])
              | (refine wpT_does (by rfl) (fun K hK => ?_); go_simp; refine hK _ _ ?_ ?_
                 · (trivial)
                 clear hK K; try simp only [Act.put, List.setIfInBounds_toArray, List.set_cons_zero, List.set_cons_succ])
              | (refine wpT_last (by rfl) (fun K hK => ?_); go_simp; refine hK _ _ ?_; clear hK K)
              | (refine wpT_nil ?_))
            go_wp2_with fail
            go_ret
            exact ⟨by rw [HV4.out]; rfl, HK0.out.trans K2.out⟩
        · have HV3 : Hid (ver 0 base l head = 19) := hid (by rw [HV2.out, if_pos ⟨trivial, b6⟩])
          rw [decide_eq_false b6] at ZB
          clear b6
          repeat (first
            | (refine' wpT_calm (v := _) (by rfl) (fun W hW => ?_) ?_; rotate_left
               · ((try dsimp only at hW); go_simp; first | done | rfl)
               simp only [Act.put, List.setIfInBounds_toArray, List.set_cons_zero, List.set_cons_succ])
            | (refine' wpT_reads (v := _) (by rfl) ?_ ?_; rotate_left
               · (go_simp; first | done | rfl)
               simp only [Act.put, List.setIfInBounds_toArray, List.set_cons_zero, List.set_cons_succ])
            | (refine wpT_skip (by rfl) rfl ?_; simp only [Act.put, List.setIfInBounds_toArray, List.set_cons_zero, List.set_cons_succ])
            | (refine wpT_does (by rfl) (fun K hK => ?_); go_simp; refine hK _ _ ?_ ?_
               · (trivial)
               clear hK K; try simp only [Act.put, List.setIfInBounds_toArray, List.set_cons_zero, List.set_cons_succ])
            | (refine wpT_last (by rfl) (fun K hK => ?_); go_simp; refine hK _ _ ?_; clear hK K)
            | (refine wpT_nil ?_))
          go_wp2_with fail
          go_ret
          exact ⟨by rw [HV3.out]; rfl, HK0.out.trans K1.out⟩
      · have b5' : (d == 0) = false := by simpa using b5
        have d0 : wr.drew.cell? ⟨w.heap.size, 0, none⟩ = some (.int .i64 d) := u0
        have d1 : wr.drew.cell? ⟨w.heap.size, 1, none⟩ = some (.string B) := u1
        have d2 : wr.drew.cell? ⟨w.heap.size, 2, none⟩ = some (.slice a0 i c0) := u2
        have d3 : wr.drew.cell? ⟨w.heap.size, 3, none⟩ = some (.string E) := u3
        have HV3 : Hid (ver d base l head = if chns base l ≠ head then 19 else 0) := hid (by rw [HV2.out, if_neg (fun h => b5 h.1)])
        clear b5
        go_wp2_with fail
        refine wp_region_text [0,0,0,0,0,0,2,2,0,0,0,0,0,0,0,2,0,0,0,0] (fun W => W.cell? ⟨w.heap.size, 0, none⟩ = some (.int .i64 d) ∧ W.cell? ⟨w.heap.size, 1, none⟩ = some (.string B) ∧ W.cell? ⟨w.heap.size, 2, none⟩ = some (.slice a0 i c0) ∧ W.cell? ⟨w.heap.size, 3, none⟩ = some (.string E)) (by kernel_rfl) (by kernel_rfl) ⟨d0, d1, d2, d3⟩ ?_
        have KD := hid (KK.out.drew)
        have HRD := hid (HRR.out.keep ((Keep.refl (fun _ => False) wr).drew) (fun _ _ h => h))
        obtain ⟨D, hD⟩ : ∃ D, wr.drew = D := ⟨_, rfl⟩
        rw [hD] at d0 d1 d2 d3 KD HRD ⊢
        clear hD u0 u1 u2 u3 BX HRR
        have e0 := d0
        have e1 := d1
        have e2 := d2
        have e3 := d3
        clear d0 d1 d2 d3
        repeat (first
          | (refine' wpT_calm (v := _) (by rfl) (fun W hW => ?_) ?_; rotate_left
             · ((try dsimp only at hW); go_simp; first | done | rfl)
             simp only [Act.put, List.setIfInBounds_toArray, List.set_cons_zero, List.set_cons_succ])
          | (refine' wpT_reads (v := _) (by rfl) ?_ ?_; rotate_left
             · (go_simp; first | done | rfl)
             simp only [Act.put, List.setIfInBounds_toArray, List.set_cons_zero, List.set_cons_succ])
          | (refine wpT_skip (by rfl) rfl ?_; simp only [Act.put, List.setIfInBounds_toArray, List.set_cons_zero, List.set_cons_succ])
          | (refine wpT_does (by rfl) (fun K hK => ?_); go_simp; refine hK _ _ ?_ ?_
             · (trivial)
             clear hK K; try simp only [Act.put, List.setIfInBounds_toArray, List.set_cons_zero, List.set_cons_succ])
          | (refine wpT_last (by rfl) (fun K hK => ?_); go_simp; refine hK _ _ ?_; clear hK K)
          | (refine wpT_nil ?_))
        refine wpT_does (by rfl) (fun K hK => ?_)
        go_simp
        rw [← HB.out]
        refine (rchain_any HRD.out (by rw [HN.out]; omega) base HSB.out).mono ?_
        rintro _ w2 ⟨rfl, k2⟩
        have g0 := (k2.cell (p := ⟨w.heap.size, 0, none⟩) (World.block_lt_of_cell? _ _ e0) (fun h => h)).trans e0
        have g1 := (k2.cell (p := ⟨w.heap.size, 1, none⟩) (World.block_lt_of_cell? _ _ e1) (fun h => h)).trans e1
        have g2 := (k2.cell (p := ⟨w.heap.size, 2, none⟩) (World.block_lt_of_cell? _ _ e2) (fun h => h)).trans e2
        have g3 := (k2.cell (p := ⟨w.heap.size, 3, none⟩) (World.block_lt_of_cell? _ _ e3) (fun h => h)).trans e3
        have K2 := hid (KD.out.trans k2)
        refine hK _ _ ⟨g0, g1, g2, g3⟩ ?_
        clear hK K e0 e1 e2 e3 k2
        try simp only [Act.put, List.setIfInBounds_toArray, List.set_cons_zero, List.set_cons_succ]
        rw [HB.out, HH.out]
        by_cases he : h = head
        · have HV4 : Hid (ver d base l head = 0) := hid (by rw [HV3.out, HH.out, if_neg (fun k => k he)])
          rw [decide_eq_true he] at EB
          clear he
          repeat (first
            | (refine' wpT_calm (v := _) (by rfl) (fun W hW => ?_) ?_; rotate_left
               · ((try dsimp only at hW); go_simp; first | done | rfl)
               simp only [Act.put, List.setIfInBounds_toArray, List.set_cons_zero, List.set_cons_succ])
            | (refine' wpT_reads (v := _) (by rfl) ?_ ?_; rotate_left
               · (go_simp; first | done | rfl)
               simp only [Act.put, List.setIfInBounds_toArray, List.set_cons_zero, List.set_cons_succ])
            | (refine wpT_skip (by rfl) rfl ?_; simp only [Act.put, List.setIfInBounds_toArray, List.set_cons_zero, List.set_cons_succ])
            | (refine wpT_does (by rfl) (fun K hK => ?_); go_simp; refine hK _ _ ?_ ?_
               · (trivial)
               clear hK K; try simp only [Act.put, List.setIfInBounds_toArray, List.set_cons_zero, List.set_cons_succ])
            | (refine wpT_last (by rfl) (fun K hK => ?_); go_simp; refine hK _ _ ?_; clear hK K)
            | (refine wpT_nil ?_))
          go_wp2_with fail
          go_ret
          exact ⟨by rw [HV4.out]; rfl, HK0.out.trans K2.out⟩
        · have HV4 : Hid (ver d base l head = 19) := hid (by rw [HV3.out, HH.out, if_pos he])
          rw [decide_eq_false he] at EB
          clear he
          repeat (first
            | (refine' wpT_calm (v := _) (by rfl) (fun W hW => ?_) ?_; rotate_left
               · ((try dsimp only at hW); go_simp; first | done | rfl)
               simp only [Act.put, List.setIfInBounds_toArray, List.set_cons_zero, List.set_cons_succ])
            | (refine' wpT_reads (v := _) (by rfl) ?_ ?_; rotate_left
               · (go_simp; first | done | rfl)
               simp only [Act.put, List.setIfInBounds_toArray, List.set_cons_zero, List.set_cons_succ])
            | (refine wpT_skip (by rfl) rfl ?_; simp only [Act.put, List.setIfInBounds_toArray, List.set_cons_zero, List.set_cons_succ])
            | (refine wpT_does (by rfl) (fun K hK => ?_); go_simp; refine hK _ _ ?_ ?_
               · (trivial)
               clear hK K; try simp only [Act.put, List.setIfInBounds_toArray, List.set_cons_zero, List.set_cons_succ])
            | (refine wpT_last (by rfl) (fun K hK => ?_); go_simp; refine hK _ _ ?_; clear hK K)
            | (refine wpT_nil ?_))
          go_wp2_with fail
          go_ret
          exact ⟨by rw [HV4.out]; rfl, HK0.out.trans K2.out⟩
end Go.Proofs.Ytpijnpapmdnceaa

namespace Go.Proofs.Ytpijnpapmdnceaa
open Go Go.RowKit

set_option maxRecDepth 10000 in
theorem rec_neq (x y : Rc) (W : World) : (binOp .neq 42 x.agg y.agg).run Try.prog W = .ok (.bool (!decide (x = y))) W := by
  have e : decide (x = y) = (decide (x.s = y.s) && (decide (x.t = y.t) && (decide (x.c = y.c) && (decide (x.o = y.o) && (decide (x.e = y.e) && (decide (x.n = y.n) && (decide (x.m = y.m) && (decide (x.a = y.a) && (decide (x.b = y.b) && decide (x.d = y.d)))))))))) := by
    cases x; cases y; simp [Bool.eq_iff_iff]
  rw [e]
  unfold Rc.agg
  go_simp
  by_cases h1 : x.s = y.s
  · by_cases h2 : x.t = y.t
    · by_cases h3 : x.c = y.c
      · by_cases h4 : x.o = y.o
        · by_cases h5 : x.e = y.e
          · by_cases h6 : x.n = y.n
            · by_cases h7 : x.m = y.m
              · by_cases h8 : x.a = y.a
                · by_cases h9 : x.b = y.b
                  · by_cases h10 : x.d = y.d
                    · simp [h1, h2, h3, h4, h5, h6, h7, h8, h9, h10]
                    · simp [h1, h2, h3, h4, h5, h6, h7, h8, h9, h10]
                  · simp [h1, h2, h3, h4, h5, h6, h7, h8, h9]
                · simp [h1, h2, h3, h4, h5, h6, h7, h8]
              · simp [h1, h2, h3, h4, h5, h6, h7]
            · simp [h1, h2, h3, h4, h5, h6]
          · simp [h1, h2, h3, h4, h5]
        · simp [h1, h2, h3, h4]
      · simp [h1, h2, h3]
    · simp [h1, h2]
  · simp [h1]

theorem cells_at {w : World} {g off n c : Nat} {l : List Rc} (h : ReadR w (.slice (some ⟨g, off, none⟩) n c) l) (i : Nat) (hl : i < l.length) (x : Rc) (hx : l[i] = x) : ∀ j u, x.cells[j]? = some u → w.cell? ⟨g, off + i * 10 + j, none⟩ = some u := by
  rcases h with ⟨a1, c1, hv1, h0⟩ | ⟨g', off', c1, hv1, hg, hm, hc⟩
  · rw [h0] at hl; exact absurd hl (Nat.not_lt_zero i)
  simp only [Value.slice.injEq, Option.some.injEq, Addr.mk.injEq, and_true] at hv1
  obtain ⟨⟨rfl, rfl⟩, -, rfl⟩ := hv1
  intro j u hu
  have hj : j < 10 := (List.getElem?_eq_some_iff.1 hu).1
  have h1 := flatR_get l i j hl hj
  rw [hx, hu] at h1
  have h2 := hc _ u h1
  rwa [← Nat.add_assoc] at h2
theorem ReadR.addr {w : World} {a : Option Addr} {n c : Nat} {l : List Rc} (h : ReadR w (.slice a n c) l) (hl : 0 < l.length) : ∃ g off, a = some ⟨g, off, none⟩ := by
  rcases h with ⟨a1, c1, hv1, h0⟩ | ⟨g', off', c1, hv1, hg, hm, hc⟩
  · rw [h0] at hl; exact absurd hl (Nat.lt_irrefl 0)
  · simp only [Value.slice.injEq] at hv1
    exact ⟨g', off', hv1.1⟩
theorem ReadR.maxl {w : World} {v : Value} {l : List Rc} (h : ReadR w v l) : l.length ≤ maxLen := by
  rcases h with ⟨a1, c1, hv1, h0⟩ | ⟨g', off', c1, hv1, hg, hm, hc⟩
  · rw [h0]; exact Nat.zero_le _
  · exact hm

set_option maxRecDepth 10000 in
set_option maxHeartbeats 1000000 in
theorem rsame_any {w : World} {v1 v2 : Value} {l1 l2 : List Rc} (h1 : ReadR w v1 l1) (h2 : ReadR w v2 l2) (d1 d2 : Int) (b1 b2 e1 e2 : List B8) :
    Calls Try.prog 21 #[viewV d1 b1 v1 e1, viewV d2 b2 v2 e2] w fun e w' => e = .returned (.bool (decide (d1 = d2 ∧ b1 = b2 ∧ e1 = e2 ∧ l1 = l2))) ∧ Keep (fun _ => False) w w' := by
  obtain ⟨a1, c1, hv1⟩ := h1.form
  obtain ⟨a2, c2, hv2⟩ := h2.form
  subst hv1 hv2
  obtain ⟨n1, hn1⟩ : ∃ n, l1.length = n := ⟨_, rfl⟩
  obtain ⟨n2, hn2⟩ : ∃ n, l2.length = n := ⟨_, rfl⟩
  have m1 := h1.maxl
  have m2 := h2.maxl
  unfold maxLen at m1 m2
  rw [hn1] at h1 m1 ⊢
  rw [hn2] at h2 m2 ⊢
  have H1 := hid h1
  have H2 := hid h2
  have N1 := hid hn1
  have N2 := hid hn2
  have BB := bya_beq b1 b2
  have EE := bya_beq e1 e2
  obtain ⟨B1, hB1⟩ : ∃ B, bya b1 = B := ⟨_, rfl⟩
  obtain ⟨B2, hB2⟩ : ∃ B, bya b2 = B := ⟨_, rfl⟩
  obtain ⟨E1, hE1⟩ : ∃ B, bya e1 = B := ⟨_, rfl⟩
  obtain ⟨E2, hE2⟩ : ∃ B, bya e2 = B := ⟨_, rfl⟩
  rw [hB1, hB2] at BB
  rw [hE1, hE2] at EE
  unfold viewV
  rw [hB1, hB2, hE1, hE2]
  clear h1 h2 hn1 hn2 hB1 hB2 hE1 hE2
  obtain ⟨W0, hW0⟩ : ∃ W0, (w.alloc (.cells #[.int .i64 d1, .string B1, .slice a1 n1 c1, .string E1] 45)).alloc (.cells #[.int .i64 d2, .string B2, .slice a2 n2 c2, .string E2] 45) = W0 := ⟨_, rfl⟩
  have K0 : Keep (fun _ => False) w W0 := by rw [← hW0]; exact ((Keep.refl _ _).alloc _).alloc _
  have S0 : W0.heap.size = w.heap.size + 2 := by rw [← hW0, World.size_alloc, World.size_alloc]
  have rw1 : W0.heap[w.heap.size]? = some (.cells #[.int .i64 d1, .string B1, .slice a1 n1 c1, .string E1] 45 (0, 0)) := by
    rw [← hW0, heap_alloc_old _ _ (by rw [World.size_alloc]; exact Nat.lt_succ_self _)]
    exact heap_alloc_new w _
  have rw2 : W0.heap[w.heap.size + 1]? = some (.cells #[.int .i64 d2, .string B2, .slice a2 n2 c2, .string E2] 45 (0, 0)) := by
    rw [← hW0, ← World.size_alloc w (.cells #[.int .i64 d1, .string B1, .slice a1 n1 c1, .string E1] 45)]
    exact heap_alloc_new _ _
  have HW0 := hid hW0
  have HK0 := hid K0
  have HS0 := hid S0
  have q0 : W0.cell? ⟨w.heap.size, 0, none⟩ = some (.int .i64 d1) := by rw [cell_of_row _ _ 0 _ _ _ rw1]; rfl
  have q1 : W0.cell? ⟨w.heap.size, 1, none⟩ = some (.string B1) := by rw [cell_of_row _ _ 1 _ _ _ rw1]; rfl
  have q2 : W0.cell? ⟨w.heap.size, 2, none⟩ = some (.slice a1 n1 c1) := by rw [cell_of_row _ _ 2 _ _ _ rw1]; rfl
  have q3 : W0.cell? ⟨w.heap.size, 3, none⟩ = some (.string E1) := by rw [cell_of_row _ _ 3 _ _ _ rw1]; rfl
  have r0 : W0.cell? ⟨w.heap.size + 1, 0, none⟩ = some (.int .i64 d2) := by rw [cell_of_row _ _ 0 _ _ _ rw2]; rfl
  have r1 : W0.cell? ⟨w.heap.size + 1, 1, none⟩ = some (.string B2) := by rw [cell_of_row _ _ 1 _ _ _ rw2]; rfl
  have r2 : W0.cell? ⟨w.heap.size + 1, 2, none⟩ = some (.slice a2 n2 c2) := by rw [cell_of_row _ _ 2 _ _ _ rw2]; rfl
  have r3 : W0.cell? ⟨w.heap.size + 1, 3, none⟩ = some (.string E2) := by rw [cell_of_row _ _ 3 _ _ _ rw2]; rfl
  clear hW0 K0 S0 rw1 rw2
  go_enter Try.func21, Try.ntmps21
  by_cases k1 : d1 = d2
  rotate_left
  · have HV : Hid (decide (d1 = d2 ∧ b1 = b2 ∧ e1 = e2 ∧ l1 = l2) = false) := hid (decide_eq_false (fun h => k1 h.1))
    have kd : (d1 != d2) = true := by rw [bne_iff_ne]; exact k1
    clear k1
    go_wp2_with fail
    go_ret
    exact ⟨by rw [HV.out]; rfl, by rw [HW0.out]; exact HK0.out⟩
  have kd : (d1 != d2) = false := by rw [bne_eq_false_iff_eq]; exact k1
  by_cases k2 : b1 = b2
  rotate_left
  · have HV : Hid (decide (d1 = d2 ∧ b1 = b2 ∧ e1 = e2 ∧ l1 = l2) = false) := hid (decide_eq_false (fun h => k2 h.2.1))
    rw [decide_eq_false k2] at BB
    clear k1 k2
    go_wp2_with fail
    go_ret
    exact ⟨by rw [HV.out]; rfl, by rw [HW0.out]; exact HK0.out⟩
  rw [decide_eq_true k2] at BB
  by_cases k3 : e1 = e2
  rotate_left
  · have HV : Hid (decide (d1 = d2 ∧ b1 = b2 ∧ e1 = e2 ∧ l1 = l2) = false) := hid (decide_eq_false (fun h => k3 h.2.2.1))
    rw [decide_eq_false k3] at EE
    clear k1 k2 k3
    go_wp2_with fail
    go_ret
    exact ⟨by rw [HV.out]; rfl, by rw [HW0.out]; exact HK0.out⟩
  rw [decide_eq_true k3] at EE
  by_cases k4 : n1 = n2
  rotate_left
  · have HV : Hid (decide (d1 = d2 ∧ b1 = b2 ∧ e1 = e2 ∧ l1 = l2) = false) := hid (decide_eq_false (fun h => k4 (by rw [← N1.out, ← N2.out, h.2.2.2])))
    have kn : ((n1 : Int) != (n2 : Int)) = true := by rw [bne_iff_ne]; omega
    clear k1 k2 k3 k4
    go_wp2_with fail
    go_ret
    exact ⟨by rw [HV.out]; rfl, by rw [HW0.out]; exact HK0.out⟩
  subst k4
  have HV : Hid (decide (d1 = d2 ∧ b1 = b2 ∧ e1 = e2 ∧ l1 = l2) = decide (l1 = l2)) := hid (by simp only [k1, k2, k3, true_and])
  clear k1 k2 k3
  go_wp2_with fail
  rw [HW0.out]
  go_loopw [5] (fun iv wr => ∃ (i : Nat), i ≤ n1 ∧ (∀ j (hj : j < l1.length) (hj2 : j < l2.length), j < i → l1[j] = l2[j]) ∧ Keep (fun _ => False) W0 wr ∧ iv = .int .i64 i) (fun iv _ => n1 - (intOf iv).toNat)
  case atStart => exact ⟨0, by omega, fun j _ _ h => absurd h (Nat.not_lt_zero j), Keep.refl _ _, rfl⟩
  case round =>
    obtain ⟨i, hi, hs, hK, rfl⟩ := hrel
    have u2 := (hK.cell (p := ⟨w.heap.size, 2, none⟩) (by dsimp only; have := HS0.out; omega) (fun h => h)).trans q2
    have t2 := (hK.cell (p := ⟨w.heap.size + 1, 2, none⟩) (by dsimp only; have := HS0.out; omega) (fun h => h)).trans r2
    have HS := hid hs
    have KK := hid hK
    clear hs hK q0 q1 q2 q3 r0 r1 r2 r3
    by_cases hlt : i < n1
    · have hli : (i : Int) < n1 := by omega
      have hl1 : i < l1.length := by rw [N1.out]; exact hlt
      have hl2 : i < l2.length := by rw [N2.out]; exact hlt
      obtain ⟨g1, o1, ha1⟩ := H1.out.addr (by omega)
      obtain ⟨g2, o2, ha2⟩ := H2.out.addr (by omega)
      subst ha1 ha2
      obtain ⟨x, hx⟩ : ∃ x, l1[i] = x := ⟨_, rfl⟩
      obtain ⟨y, hy⟩ : ∃ x, l2[i] = x := ⟨_, rfl⟩
      have cx := cells_at ((H1.out.keep (HK0.out.trans KK.out) (fun _ _ h => h)).keep ((Keep.refl (fun _ => False) wr).drew) (fun _ _ h => h)) i hl1 x hx
      have cy := cells_at ((H2.out.keep (HK0.out.trans KK.out) (fun _ _ h => h)).keep ((Keep.refl (fun _ => False) wr).drew) (fun _ _ h => h)) i hl2 y hy
      have x0 := cx 0 (.int .i64 x.s) rfl
      have y0 := cy 0 (.int .i64 y.s) rfl
      have x1 := cx 1 (.int .i64 x.t) rfl
      have y1 := cy 1 (.int .i64 y.t) rfl
      have x2 := cx 2 (.int .i64 x.c) rfl
      have y2 := cy 2 (.int .i64 y.c) rfl
      have x3 := cx 3 (.int .i64 x.o) rfl
      have y3 := cy 3 (.int .i64 y.o) rfl
      have x4 := cx 4 (.int .i64 x.e) rfl
      have y4 := cy 4 (.int .i64 y.e) rfl
      have x5 := cx 5 (.int .i64 x.n) rfl
      have y5 := cy 5 (.int .i64 y.n) rfl
      have x6 := cx 6 (.int .i64 x.m) rfl
      have y6 := cy 6 (.int .i64 y.m) rfl
      have x7 := cx 7 (.int .i64 x.a) rfl
      have y7 := cy 7 (.int .i64 y.a) rfl
      have x8 := cx 8 (.int .i64 x.b) rfl
      have y8 := cy 8 (.int .i64 y.b) rfl
      have x9 := cx 9 (.int .i64 x.d) rfl
      have y9 := cy 9 (.int .i64 y.d) rfl
      rw [Nat.add_zero] at x0 y0
      have HX := hid hx
      have HY := hid hy
      have d2 : wr.drew.cell? ⟨w.heap.size, 2, none⟩ = some (.slice (some ⟨g1, o1, none⟩) n1 c1) := u2
      have s2 : wr.drew.cell? ⟨w.heap.size + 1, 2, none⟩ = some (.slice (some ⟨g2, o2, none⟩) n1 c2) := t2
      clear cx cy hx hy
      have KD := hid KK.out.drew
      go_wp2_with fail
      refine wp_region_text [0,0,0,0,0,0,0,0,0,0,0] (fun W => W.cell? ⟨w.heap.size, 2, none⟩ = some (.slice (some ⟨g1, o1, none⟩) n1 c1) ∧ W.cell? ⟨w.heap.size + 1, 2, none⟩ = some (.slice (some ⟨g2, o2, none⟩) n1 c2) ∧ W.cell? ⟨g1, o1 + i * 10, none⟩ = some (.int .i64 x.s) ∧ W.cell? ⟨g1, o1 + i * 10 + 1, none⟩ = some (.int .i64 x.t) ∧ W.cell? ⟨g1, o1 + i * 10 + 2, none⟩ = some (.int .i64 x.c) ∧ W.cell? ⟨g1, o1 + i * 10 + 3, none⟩ = some (.int .i64 x.o) ∧ W.cell? ⟨g1, o1 + i * 10 + 4, none⟩ = some (.int .i64 x.e) ∧ W.cell? ⟨g1, o1 + i * 10 + 5, none⟩ = some (.int .i64 x.n) ∧ W.cell? ⟨g1, o1 + i * 10 + 6, none⟩ = some (.int .i64 x.m) ∧ W.cell? ⟨g1, o1 + i * 10 + 7, none⟩ = some (.int .i64 x.a) ∧ W.cell? ⟨g1, o1 + i * 10 + 8, none⟩ = some (.int .i64 x.b) ∧ W.cell? ⟨g1, o1 + i * 10 + 9, none⟩ = some (.int .i64 x.d) ∧ W.cell? ⟨g2, o2 + i * 10, none⟩ = some (.int .i64 y.s) ∧ W.cell? ⟨g2, o2 + i * 10 + 1, none⟩ = some (.int .i64 y.t) ∧ W.cell? ⟨g2, o2 + i * 10 + 2, none⟩ = some (.int .i64 y.c) ∧ W.cell? ⟨g2, o2 + i * 10 + 3, none⟩ = some (.int .i64 y.o) ∧ W.cell? ⟨g2, o2 + i * 10 + 4, none⟩ = some (.int .i64 y.e) ∧ W.cell? ⟨g2, o2 + i * 10 + 5, none⟩ = some (.int .i64 y.n) ∧ W.cell? ⟨g2, o2 + i * 10 + 6, none⟩ = some (.int .i64 y.m) ∧ W.cell? ⟨g2, o2 + i * 10 + 7, none⟩ = some (.int .i64 y.a) ∧ W.cell? ⟨g2, o2 + i * 10 + 8, none⟩ = some (.int .i64 y.b) ∧ W.cell? ⟨g2, o2 + i * 10 + 9, none⟩ = some (.int .i64 y.d)) (by kernel_rfl) (by kernel_rfl) ⟨d2, s2, x0, x1, x2, x3, x4, x5, x6, x7, x8, x9, y0, y1, y2, y3, y4, y5, y6, y7, y8, y9⟩ ?_
      have RN := rec_neq x y
      unfold Rc.agg at RN
      clear d2 s2 u2 t2 x0 y0 x1 y1 x2 y2 x3 y3 x4 y4 x5 y5 x6 y6 x7 y7 x8 y8 x9 y9
      by_cases hxy : x = y
      · rw [decide_eq_true hxy, Bool.not_true] at RN
        have HXY := hid hxy
        clear hxy
        repeat (first
          | (refine' wpT_calm (v := _) (by rfl) (fun W hW => ?_) ?_; rotate_left
             · ((try dsimp only at hW); go_simp; first | done | rfl)
             simp only [Act.put, List.setIfInBounds_toArray, List.set_cons_zero, List.set_cons_succ])
          | (refine' wpT_reads (v := _) (by rfl) ?_ ?_; rotate_left
             · (go_simp; first | done | rfl)
             simp only [Act.put, List.setIfInBounds_toArray, List.set_cons_zero, List.set_cons_succ])
          | (refine wpT_skip (by rfl) rfl ?_; simp only [Act.put, List.setIfInBounds_toArray, List.set_cons_zero, List.set_cons_succ])
          | (refine wpT_does (by rfl) (fun K hK => ?_); go_simp; refine hK _ _ ?_ ?_
             · (trivial)
             clear hK K; try simp only [Act.put, List.setIfInBounds_toArray, List.set_cons_zero, List.set_cons_succ])
          | (refine wpT_last (by rfl) (fun K hK => ?_); go_simp; refine hK _ _ ?_; clear hK K)
          | (refine wpT_nil ?_))
        go_wp2_with fail
        refine ⟨⟨i + 1, by omega, fun j hj hj2 hji => ?_, KD.out, by go_num⟩, by simp [intOf]; omega⟩
        by_cases hje : j = i
        · subst hje; rw [HX.out, HY.out]; exact HXY.out
        · exact HS.out j hj hj2 (by omega)
      · rw [decide_eq_false hxy, Bool.not_false] at RN
        have HV2 : Hid (decide (l1 = l2) = false) := hid (decide_eq_false (fun h => hxy (by rw [← HX.out, ← HY.out]; subst h; rfl)))
        clear hxy
        repeat (first
          | (refine' wpT_calm (v := _) (by rfl) (fun W hW => ?_) ?_; rotate_left
             · ((try dsimp only at hW); go_simp; first | done | rfl)
             simp only [Act.put, List.setIfInBounds_toArray, List.set_cons_zero, List.set_cons_succ])
          | (refine' wpT_reads (v := _) (by rfl) ?_ ?_; rotate_left
             · (go_simp; first | done | rfl)
             simp only [Act.put, List.setIfInBounds_toArray, List.set_cons_zero, List.set_cons_succ])
          | (refine wpT_skip (by rfl) rfl ?_; simp only [Act.put, List.setIfInBounds_toArray, List.set_cons_zero, List.set_cons_succ])
          | (refine wpT_does (by rfl) (fun K hK => ?_); go_simp; refine hK _ _ ?_ ?_
             · (trivial)
             clear hK K; try simp only [Act.put, List.setIfInBounds_toArray, List.set_cons_zero, List.set_cons_succ])
          | (refine wpT_last (by rfl) (fun K hK => ?_); go_simp; refine hK _ _ ?_; clear hK K)
          | (refine wpT_nil ?_))
        go_wp2_with fail
        go_ret
        exact ⟨by rw [HV.out, HV2.out]; rfl, HK0.out.trans KD.out⟩
    · obtain rfl : i = n1 := by omega
      have HV2 : Hid (decide (l1 = l2) = true) := hid (decide_eq_true (List.ext_getElem (by rw [N1.out, N2.out]) (fun j hj hj2 => HS.out j hj hj2 (by rw [← N1.out]; exact hj))))
      go_wp2_with fail
      go_ret
      exact ⟨by rw [HV.out, HV2.out]; rfl, HK0.out.trans KK.out⟩
end Go.Proofs.Ytpijnpapmdnceaa
