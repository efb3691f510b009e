/- The walk of the program's digest. -/
import Derived.Test.YtpijnpapmdnceaaDigD
import Derived.Test.YtpijnpapmdnceaaDigF
namespace Go.Proofs.Ytpijnpapmdnceaa
open Go Go.RowKit Go.Shelf

attribute [local go_sem] Oper.semAt_some

/-- The state behind these blocks. -/
def stB (l : List B8) {n : Nat} (pre : List (Fin n)) : List L64 := pre.foldl (fun s x => perm (lanesK (padF l) (136 * x.1) s 17)) z25
theorem stB_snoc (l : List B8) {n : Nat} (pre : List (Fin n)) (x : Fin n) : stB l (pre ++ [x]) = perm (lanesK (padF l) (136 * x.1) (stB l pre) 17) := by simp [stB]
theorem stB_len (l : List B8) {n : Nat} (pre : List (Fin n)) : (stB l pre).length = 25 := by
  have h : ∀ (pre : List (Fin n)) (s : List L64), s.length = 25 → (pre.foldl (fun s x => perm (lanesK (padF l) (136 * x.1) s 17)) s).length = 25 := by
    intro pre
    induction pre with
    | nil => intro s hs; rw [List.foldl_nil]; exact hs
    | cons x pre ih =>
      intro s hs
      rw [List.foldl_cons]
      have h1 := perm_length (lanesK (padF l) (136 * x.1) s 17) (by rw [lanesK_len, hs])
      exact ih _ h1
  exact h pre z25 rfl
theorem stB_take (l : List B8) (n : Nat) : ∀ k, k ≤ n → stB l ((List.finRange n).take k) = dgS l k
  | 0, _ => rfl
  | k + 1, h => by rw [fin_succ n k h, stB_snoc, stB_take l n k (by omega), dgS]
theorem stB_all (l : List B8) (n : Nat) : stB l (List.finRange n) = dgS l n := by
  have := stB_take l n n (Nat.le_refl _)
  rwa [fin_all n n (Nat.le_refl _)] at this

theorem ownFrom_row (b T B : Nat) (hb : b < B) {β : Type} (f : β → List L64) : OwnFrom B (fun (x : β) W => RowL W b T (f x)) := fun s W W' row hs hg hr =>
  (hg.block b (RowL.lt hs) (fun e => by have := (hr b e.symm).1; omega)).trans hs
theorem ownFrom_keep {β : Type} {F : Nat → Prop} {B : Nat} {w₀ : World} (hF : ∀ k, B ≤ k → F k) : OwnFrom B (fun (_ : β) W => Keep F w₀ W) := fun _ _ _ _ hs hg hr =>
  hs.grown hg (fun k e => .inl (hF k (hr k e).1))
theorem Keep.others {b T : Nat} {s : List L64} {W W' : World} (hK : Keep (fun k => k = b) W W') (hR : RowL W b T s) : KeepsOthers W W' :=
  ⟨hK.size, fun k o hk ho => (hK.block k (lt_of_heap hk) (fun e => by
    subst e
    rw [hR] at hk
    cases hk
    cases ho)).trans hk⟩

theorem Keep.put {F : Nat → Prop} (W : World) (l : Nat) (o : Obj) (h : F l) : Keep F W (W.putObj l o) := (Keep.refl F W).grown (grownBy_putObj' W l o) (fun k e => by cases e; exact .inl h)

section
variable {m l : Nat} {ops : Array Oper} {rest : List Oper} {o : Oper} {a : Act} {w : World} {Q : Exit → Act → World → Prop}
theorem wpListIn_ldR (x : Operand) (hgd : o.guard = none) (ho : o.op = .load 28 x) (g : Nat) (hx : a.eval x = .pointer (some ⟨g, 0, none⟩)) (s : List L64) (hs : s.length = 25) (hg : RowL w g 28 s)
    (h : wpListIn (Fence.wide.inRound l) m Try.prog ops Q rest (a.put o.dst (.agg (stv s).toArray)) w) : wpListIn (Fence.wide.inRound l) m Try.prog ops Q (o :: rest) a w :=
  wpListIn_mild (r := some l) hgd (by unfold mild; rw [ho]) (fun _ hK => wp_ld x ho g hx s hs hg (hK _ _ h))
theorem wpListIn_stR (x y : Operand) (hgd : o.guard = none) (ho : o.op = .store 28 x y) (g : Nat) (hx : a.eval x = .pointer (some ⟨g, 0, none⟩)) (s : List L64) (hs : s.length = 25) (hy : a.eval y = .agg (stv s).toArray) (u : List L64) (hu : u.length = 25) (hg : RowL w g 28 u)
    (h : wpListIn (Fence.wide.inRound l) m Try.prog ops Q rest (a.put o.dst undef) (w.setRow g (stv s).toArray)) : wpListIn (Fence.wide.inRound l) m Try.prog ops Q (o :: rest) a w :=
  wpListIn_mild (r := some l) hgd (by unfold mild; rw [ho]) (fun _ hK => wp_st x y ho g hx s hs hy u hu hg (hK _ _ h))
theorem wpListIn_apW (x y : Operand) (hgd : o.guard = none)
    (ho : o.op = .call { callee := .builtin .append, args := #[x, y], argTypes := #[22, 22] })
    (v : Value) (L : List B8) (hs : a.eval x = v) (hown : OwnY w v L) (sv : Value) (n : Nat) (news : List B8) (hx : a.eval y = sv) (hsrc : Src w sv n 1 (flat8 news)) (hn : L.length + n ≤ 1000000)
    (h : ∀ v' w', OwnY w' v' (L ++ news) → (∀ k, v'.ownBlock = some k → v.ownBlock = some k ∨ w.heap.size ≤ k) → Keep (fun k => v.ownBlock = some k) w w' → wpListIn Fence.wide m Try.prog ops Q rest (a.put o.dst v') w') : wpListIn Fence.wide m Try.prog ops Q (o :: rest) a w :=
  wpListIn_mild (r := none) hgd (by unfold mild; rw [ho]) (fun _ hK => wp_append_bytes w x y ho v L hs hown sv n news hx hsrc hn (fun v' w' h1 h2 h3 => hK _ _ (h v' w' h1 h2 h3)))
end

/-- Eight bytes of a list. -/
def sub8 (L : List B8) (p : Nat) : List B8 := (List.range 8).map fun i => gb L (p + i)
theorem sub8_len (L : List B8) (p : Nat) : (sub8 L p).length = 8 := by simp [sub8]
theorem sub8_gb (L : List B8) (p i : Nat) (h : i < 8) : gb (sub8 L p) i = gb L (p + i) := by
  rw [gb_get _ _ (by rw [sub8_len]; exact h)]; simp [sub8]
theorem sub8_num (l L : List B8) (p : Nat) (h : ∀ i, i < 8 → gb L (p + i) = padF l (p + i)) : num (sub8 L p) (sub8 L p).length = numX (padF l) p 8 := by
  rw [sub8_len]
  exact num_eq _ _ _ 8 (fun i hi => by rw [sub8_gb L p i hi]; exact h i hi)
theorem sub8_read {W : World} {g n cap : Nat} {L : List B8} (h : ReadY W (.slice (some ⟨g, 0, none⟩) n cap) L) (p c : Nat) (hp : p + 8 ≤ n) : ReadY W (.slice (some ⟨g, p, none⟩) 8 c) (sub8 L p) := by
  obtain ⟨a, c', hv, rfl⟩ | ⟨g', off, c', hv, hg, hm, hc⟩ := h
  · simp only [Value.slice.injEq] at hv
    omega
  · simp only [Value.slice.injEq, Option.some.injEq, Addr.mk.injEq, and_true] at hv
    obtain ⟨⟨rfl, rfl⟩, rfl, rfl⟩ := hv
    refine .inr ⟨g, p, c, by rw [sub8_len], hg, by rw [sub8_len]; unfold maxLen; omega, fun i hi => ?_⟩
    rw [sub8_len] at hi
    rw [sub8_gb L p i hi]
    have := hc (p + i) (by omega)
    rwa [Nat.zero_add] at this

theorem dgB_len (s : List L64) : (dgB s).length = 32 := by simp [dgB]
theorem dgB_take (s : List L64) (k m : Nat) (hk : k < 4) (hm : m < 8) : (dgB s).take (8 * k + m + 1) = (dgB s).take (8 * k + m) ++ [(gl s k >>> (8 * m)).setWidth 8] := by
  rw [List.take_succ_eq_append_getElem (by rw [dgB_len]; omega)]
  have e1 : (8 * k + m) / 8 = k := by omega
  have e2 : (8 * k + m) % 8 = m := by omega
  simp [dgB, byt, e1, e2]

set_option maxRecDepth 100000 in
set_option maxHeartbeats 2000000 in
theorem of_any {w : World} {v : Value} {l : List B8} (h : ReadY w v l) (hl : l.length ≤ 1000) :
    Calls Try.prog 13 #[v] w fun e w' => e = .returned (bstr (dgt l)) ∧ Keep (fun _ => False) w w' := by
  refine (callsIn_wide (n := 4)).1 ?_
  have hro : Fence.wide.round = none := rfl
  obtain ⟨a, c, hv⟩ := h.form
  have H := hid h
  subst hv
  obtain ⟨n, hn⟩ : ∃ n, l.length = n := ⟨_, rfl⟩
  have HN := hid hn
  rw [hn] at H hl ⊢
  clear h hn
  have r0 : RowL (w.alloc (.cells (stv z25).toArray 28)) w.heap.size 28 z25 := heap_alloc_new w _
  have k0 : Keep (fun _ => False) w (w.alloc (.cells (stv z25).toArray 28)) := (Keep.refl _ _).alloc _
  have h0 := hid (H.out.keep k0 (fun _ _ h => h))
  have r0 := hid r0
  have k0 := hid k0
  have dv := hid (show allN n / 136 = n / 136 + 1 from by unfold allN; omega)
  have al : Hid (allN n = 136 * (n / 136 + 1)) := hid (by unfold allN; omega)
  have DA : Hid (dgt l = dgB (dgS l (n / 136 + 1))) := hid (by unfold dgt; rw [HN.out, dv.out])
  have PL : Hid ((padL l).length = 136 * (n / 136 + 1)) := hid (by rw [padL_len, HN.out, al.out])
  have PG : Hid (∀ i, i < 136 * (n / 136 + 1) → gb (padL l) i = padF l i) := hid (fun i hi => padL_gb l i (by rw [HN.out, al.out]; exact hi))
  obtain ⟨JJ, hJJ⟩ : ∃ x, n / 136 + 1 = x := ⟨_, rfl⟩
  have j100 : JJ ≤ 100 := by omega
  have j0 : 0 < JJ := by omega
  rw [hJJ] at DA PL PG
  clear al dv hJJ
  refine callsIn_of_wp_marks Try.func13 rfl trivial ?_ hro
  simp only [Try.ntmps13, List.size_toArray, List.length_cons, List.length_nil, Nat.reduceAdd, Nat.reduceSub, Array.replicate_succ, Array.replicate_zero, List.push_toArray, List.append_toArray, List.nil_append, List.cons_append]
  gi_wp2_with (fail)
  refine ⟨trivial, ?_⟩
  refine (callsIn_wide.2 (padded_any h0.out (by rw [HN.out]; omega))).mono ?_
  rintro _ w1 ⟨v1, rfl, o1, f1, k1⟩
  have R1 := r0.out.keep k1 (fun h => h)
  have K1 := k0.out.trans k1
  have rd1 := o1.reads
  obtain ⟨g, cap, hv1, hc1, hc2, -⟩ := o1.block (by rw [PL.out]; omega)
  have hg1 := f1 g (by rw [hv1]; rfl)
  have hg2 := (o1.lt g (by rw [hv1]; rfl)).2
  rw [PL.out] at hv1 hc1
  subst hv1
  have hgs : w.heap.size < g := by rw [World.size_alloc] at hg1; omega
  have RD1 := hid rd1
  have R1 := hid R1
  have K1 := hid K1
  clear o1 f1 k1 hg1 rd1 r0 k0 h0
  gi_wp2_with (fail)
  refine ⟨trivial, ?_⟩
  refine (callsIn_wide.2 (chunk_any _ _ _ _)).mono ?_
  rintro _ wL ⟨rfl, hwL⟩
  have sz : wL.heap.size = w1.heap.size + 1 + 1 := by rw [hwL, World.size_alloc, World.size_alloc]
  have cS : ((w1.alloc (.cells #[.slice (some ⟨g, 0, none⟩) (136 * JJ) cap] 22)).alloc (.cells #[.int .i64 136] 3)).cell? ⟨w1.heap.size, 0, none⟩ = some (.slice (some ⟨g, 0, none⟩) (136 * JJ) cap) := ((Boxed.new w1 22 _).alloc _).cell
  have cN := (Boxed.new (w1.alloc (.cells #[.slice (some ⟨g, 0, none⟩) (136 * JJ) cap] 22)) 3 (.int .i64 136)).cell
  rw [World.size_alloc] at cN
  have k2 : Keep (fun _ => False) w1 ((w1.alloc (.cells #[.slice (some ⟨g, 0, none⟩) (136 * JJ) cap] 22)).alloc (.cells #[.int .i64 136] 3)) := ((Keep.refl _ _).alloc _).alloc _
  have RL := hid (R1.out.keep k2 (fun h => h))
  have KL := hid (K1.out.trans k2)
  have RDL := hid (RD1.out.keep k2 (fun _ _ h => h))
  have hw1 := K1.out.size
  have hb1 : w.heap.size < w1.heap.size := R1.out.lt
  rw [← hwL] at cS cN RL KL RDL
  clear hwL k2 R1 K1 RD1
  gi_wp2_with (fail)
  refine wpIn_rangeFunc_ownF hro (by omega) (gf := 44) (lb := #[.pointer (some ⟨w1.heap.size, 0, none⟩), .pointer (some ⟨w1.heap.size + 1, 0, none⟩)]) rfl trivial (enters_of Try.func44 (by kernel_rfl) rfl)
    (chunk_stops (4 - 1) (by omega) w1.heap.size (w1.heap.size + 1) w.heap.size g 0 cap (136 * JJ) JJ wL rfl j100 hc1 hc2 (by omega) (by omega) (by omega) (by omega) cS cN) (fun h k => h.trans k) (fun W l o o' hl ho hc _ => Keep.put W l o' (.inr hl)) (Below.refl _ _) (fun _ => rfl)
    (fun pre W => RowL W w.heap.size 28 (stB l pre) ∧ Keep (fun k => k = w.heap.size ∨ wL.heap.size ≤ k) wL W)
    (fun _ _ _ => False)
    (OwnFrom.and (ownFrom_row _ _ _ (by omega) _) (ownFrom_keep (fun k hk => .inr hk)))
    (fun _ _ _ _ _ hs _ _ => hs)
    ⟨RL.out, Keep.refl _ _⟩
    (fun x => { tmps := #[.slice a n c, undef, .string { data := #[] }, .pointer (some ⟨w.heap.size, 0, none⟩), .slice (some ⟨g, 136 * x.1, none⟩) 136 136, undef, undef, undef, undef, .slice a n c, .slice (some ⟨g, 0, none⟩) (136 * JJ) cap, .func (.func 44) #[] #[.pointer (some ⟨w1.heap.size, 0, none⟩), .pointer (some ⟨w1.heap.size + 1, 0, none⟩)], .slice (some ⟨g, 136 * x.1, none⟩) 136 136, undef, undef, undef, undef, undef, undef, undef, undef, undef, undef, undef, undef, undef, undef, undef, undef, undef, undef, undef, undef, undef, undef, undef, undef, undef, undef, undef, undef, undef, undef, undef, undef, undef, undef, undef, undef, undef, undef, undef, undef], defers := [] }) ?assign ?body ?done ?stop
  case assign =>
    intro l x W K hK
    gi_wp2
    exact hK
  case body =>
    rintro lp pre x W ⟨hR, hK⟩ _
    have hx : 136 * x.1 + 136 ≤ 136 * JJ := by have := x.2; omega
    obtain ⟨P, hP⟩ : ∃ p, 136 * x.1 = p := ⟨_, rfl⟩
    have ST := hid (stB_snoc l pre x)
    have UL := hid (stB_len l pre)
    rw [hP] at hx ST
    obtain ⟨u, hu⟩ : ∃ u, stB l pre = u := ⟨_, rfl⟩
    rw [hu] at hR UL ST
    have RD := hid (RDL.out.keep hK (fun y hy => by cases hy; dsimp only; omega))
    have R0 := hid hR
    have K0 := hid hK
    simp only [hP]
    clear hR hK hP hu
    gi_wp2_with (fail)
    gi_loopw [5] (fun i wr => ∃ k p : Nat, k ≤ 17 ∧ p = 8 * k ∧ i = .int .i64 p ∧ RowL wr w.heap.size 28 (lanesK (padF l) P u k) ∧ Keep (fun k => k = w.heap.size) W wr)
      (fun i _ => 136 - (intOf i).toNat)
    case atStart => exact ⟨0, 0, Nat.zero_le _, rfl, rfl, R0.out, Keep.refl _ _⟩
    case round =>
      obtain ⟨k, p, hk, hp, rfl, hR, hK⟩ := hrel
      have R1 := hid hR
      have K1 := hid hK
      clear hR hK
      by_cases hlt : k < 17
      · have LL := hid (show (lanesK (padF l) P u k).length = 25 from by rw [lanesK_len, UL.out])
        have LS := hid (lanesK_succ (padF l) P u k)
        have SR := hid (sub8_read (RD.out.keep K1.out (fun y hy => by cases hy; dsimp only; omega)) (P + p) (136 - p) (by omega))
        have SN := hid (sub8_num l (padL l) (P + p) (fun i hi => PG.out _ (by omega)))
        rw [← hp] at LS
        obtain ⟨v, hv⟩ : ∃ v, lanesK (padF l) P u k = v := ⟨_, rfl⟩
        rw [hv] at R1 LL LS
        obtain ⟨X, hX⟩ : ∃ X, gl v k = X := ⟨_, rfl⟩
        have ck := R1.out.cell k (by rw [LL.out]; omega)
        have fk := R1.out.fro k
        rw [hX] at ck LS
        obtain ⟨N, hN⟩ : ∃ N, numX (padF l) (P + p) 8 = N := ⟨_, rfl⟩
        rw [hN] at SN LS
        have XV := hid (xor_val X N)
        have HP := hid hp
        have hpt : (p : Int) < 136 := by omega
        have hq : (p : Int) / 8 = (k : Int) := by omega
        have hk25 : (k : Int) < 25 := by omega
        have wk : IntKind.i64.wrap (k : Int) = (k : Int) := IntWalk.i64_in _ ⟨by omega, by omega⟩
        have hp8 : (p : Int) + 8 ≤ 136 := by omega
        have wp8 : IntKind.i64.wrap ((p : Int) + 8) = (p : Int) + 8 := IntWalk.i64_in _ ⟨by omega, by omega⟩
        have hle : (p : Int) ≤ (p : Int) + 8 := by omega
        have hp136 : ¬ 136 = p := by omega
        clear hp hv hX hN
        gi_wp2_with (fail)
        refine wpIn_region_text2 (r := some lp) [0,0,0,0,0,0,0,0,0,2,0,0,3] (fun W' => W'.cell? ⟨w.heap.size, k, none⟩ = some (.int .u64 (X.toNat : Int))) (by kernel_rfl) (by kernel_rfl) (by kernel_rfl) ck ?_
        repeat (first
          | (refine' wpT_calm (v := _) (by rfl) (fun W hW => ?_) ?_; rotate_left
             · ((try dsimp only at hW); go_simp; first | done | rfl)
             simp only [Act.put, List.setIfInBounds_toArray, List.set_cons_zero, List.set_cons_succ])
          | (refine' wpT_reads (v := _) (by rfl) ?_ ?_; rotate_left
             · (go_simp; first | done | rfl)
             simp only [Act.put, List.setIfInBounds_toArray, List.set_cons_zero, List.set_cons_succ])
          | (refine wpT_skip (by rfl) rfl ?_; simp only [Act.put, List.setIfInBounds_toArray, List.set_cons_zero, List.set_cons_succ])
          | (refine wpT_does (by rfl) (fun K hK => ?_); go_simp; refine hK _ _ ?_ ?_
             · (trivial)
             clear hK K; try simp only [Act.put, List.setIfInBounds_toArray, List.set_cons_zero, List.set_cons_succ])
          | (refine wpT_last (by rfl) (fun K hK => ?_); go_simp; refine hK _ _ ?_; clear hK K)
          | (refine wpT_nil ?_))
        refine wpT_does (by rfl) (fun K hK => ?_)
        go_simp
        rw [show ((p : Int) + 8).toNat - p = 8 from by omega]
        refine (number_any (SR.out.keep ((Keep.refl (fun _ => False) _).drew) (fun _ _ h => h)) (by rw [sub8_len]; decide)).mono ?_
        rintro _ _ ⟨rfl, rfl⟩
        rw [SN.out]
        refine hK _ _ ck ?_
        clear hK K
        try simp only [List.getElem_toArray, List.getElem_cons_zero, List.getElem_cons_succ, Act.put, List.setIfInBounds_toArray, List.set_cons_zero, List.set_cons_succ]
        repeat (first
          | (refine' wpT_calm (v := _) (by rfl) (fun W hW => ?_) ?_; rotate_left
             · ((try dsimp only at hW); go_simp; first | done | rfl)
             simp only [Act.put, List.setIfInBounds_toArray, List.set_cons_zero, List.set_cons_succ])
          | (refine' wpT_reads (v := _) (by rfl) ?_ ?_; rotate_left
             · (go_simp; first | done | rfl)
             simp only [Act.put, List.setIfInBounds_toArray, List.set_cons_zero, List.set_cons_succ])
          | (refine wpT_skip (by rfl) rfl ?_; simp only [Act.put, List.setIfInBounds_toArray, List.set_cons_zero, List.set_cons_succ])
          | (refine wpT_does (by rfl) (fun K hK => ?_); go_simp; refine hK _ _ ?_ ?_
             · (trivial)
             clear hK K; try simp only [Act.put, List.setIfInBounds_toArray, List.set_cons_zero, List.set_cons_succ])
          | (refine wpT_last (by rfl) (fun K hK => ?_); go_simp; refine hK _ _ ?_; clear hK K)
          | (refine wpT_nil ?_))
        rw [XV.out]
        have R2 := hid ((R1.out.set k (X ^^^ N)).keep ((Keep.refl (fun _ => False) _).drew) (fun h => h))
        have K2 := hid ((K1.out.setCell (p := ⟨w.heap.size, k, none⟩) (.inl rfl) (.int .u64 ((X ^^^ N).toNat : Int))).drew)
        have HLS : Hid ((lanesK (padF l) P u (k + 1)) = v.set k (X ^^^ N)) := hid LS.out
        clear ck fk R1 K1 hq wk hle hp8 hpt hp136
        gi_wp2_with (fail)
        go_roundw
        case rel => exact ⟨k + 1, p + 8, by omega, by have := HP.out; omega, by go_num, by rw [HLS.out]; exact R2.out, K2.out⟩
        case measure => have := HP.out; simp [intOf]; omega
      · obtain rfl : k = 17 := by omega
        have LL := hid (show (lanesK (padF l) P u 17).length = 25 from by rw [lanesK_len, UL.out])
        obtain ⟨v, hv⟩ : ∃ v, lanesK (padF l) P u 17 = v := ⟨_, rfl⟩
        rw [hv] at R1 LL ST
        have hpt : ¬ (p : Int) < 136 := by omega
        clear hv hlt hk hp
        gi_wp2_with (with_reducible refine wpListIn_ldR (.tmp 3) rfl rfl _ rfl v LL.out R1.out ?_)
        refine ⟨trivial, ?_⟩
        refine (callsIn_wide.2 (perm_any v LL.out _)).mono ?_
        rintro _ W3 ⟨rfl, k3⟩
        have hp2 := perm_length _ LL.out
        have R3 := hid (R1.out.keep k3 (fun h => h))
        have K3 := hid (K1.out.then k3 (fun _ h => h.elim))
        obtain ⟨z, hz⟩ : ∃ z, perm v = z := ⟨_, rfl⟩
        rw [hz] at hp2 ST ⊢
        clear hz k3 R1 K1
        gi_wp2_with (with_reducible refine wpListIn_stR (.tmp 3) (.tmp 32) rfl rfl _ rfl z hp2 rfl v LL.out R3.out ?_)
        have K4 := K3.out.setRowOwn rfl (stv z).toArray
        exact ⟨K4.others R0.out, K4.mono (fun y _ h => .inl h), by rw [ST.out]; exact R3.out.row, K0.out.trans (K4.mono (fun y _ h => .inl h))⟩
  case done =>
    rintro D ys W hD rfl ⟨hR, hK⟩ hKD
    rw [stB_all] at hR
    have UL := hid (dgS_len l JJ)
    obtain ⟨u, hu⟩ : ∃ u, dgS l JJ = u := ⟨_, rfl⟩
    rw [hu] at hR UL DA
    have R0 := hid hR
    have K0 := hid ((KL.out.then hK (fun y hy => by rcases hy with h | h; exact .inr (Nat.le_of_eq h.symm); exact .inr (by omega))))
    have HD := hid hKD
    have hDb : w.heap.size < D := by omega
    clear hR hK hKD hu RL KL RDL PG PL
    gi_wp2_with (fail)
    gi_loopw [6, 33] (fun s i wr => ∃ (k : Nat) (b : Option Addr) (c : Nat), k ≤ 4 ∧ i = .int .i64 k ∧ s = .slice b (8 * k) c ∧ OwnY wr (.slice b (8 * k) c) ((dgB u).take (8 * k)) ∧ (∀ y, (Value.slice b (8 * k) c).ownBlock = some y → w.heap.size < y) ∧ RowL wr w.heap.size 28 u ∧ Keep (fun _ => False) w wr ∧ wr.heap[D]? = some (.deferred (some [])))
      (fun _ i _ => 4 - (intOf i).toNat)
    case atStart => exact ⟨0, none, 0, Nat.zero_le _, rfl, rfl, OwnY.nil _, (fun y hy => by cases hy), R0.out, K0.out, HD.out⟩
    case round =>
      obtain ⟨k, b, c2, hk, rfl, rfl, hO, hF, hR, hK, hH⟩ := hrel
      have O1 := hid hO
      have F1 := hid hF
      have R1 := hid hR
      have K1 := hid hK
      have H1 := hid hH
      clear hO hF hR hK hH R0 K0 HD
      by_cases hlt : k < 4
      · have hlt' : (k : Int) < 4 := by omega
        gi_wp2_with (fail)
        gi_loopw [6, 36] (fun s i wr => ∃ (m : Nat) (b : Option Addr) (c : Nat), m ≤ 8 ∧ i = .int .i64 m ∧ s = .slice b (8 * k + m) c ∧ OwnY wr (.slice b (8 * k + m) c) ((dgB u).take (8 * k + m)) ∧ (∀ y, (Value.slice b (8 * k + m) c).ownBlock = some y → w.heap.size < y) ∧ RowL wr w.heap.size 28 u ∧ Keep (fun _ => False) w wr ∧ wr.heap[D]? = some (.deferred (some [])))
          (fun _ i _ => 8 - (intOf i).toNat)
        case atStart => exact ⟨0, b, c2, Nat.zero_le _, rfl, rfl, O1.out, F1.out, R1.out, K1.out, H1.out⟩
        case round =>
          obtain ⟨m, b, c2, hm, rfl, rfl, hO, hF, hR, hK, hH⟩ := hrel
          clear O1 F1 R1 K1 H1
          have O1 := hid hO
          have F1 := hid hF
          have R1 := hid hR
          have K1 := hid hK
          have H1 := hid hH
          clear hO hF hR hK hH
          by_cases hml : m < 8
          · have hml' : (m : Int) < 8 := by omega
            have TS := hid (dgB_take u k m hlt hml)
            have BV := byt_val (gl u k) (8 * m)
            have ck := R1.out.cell k (by rw [UL.out]; omega)
            obtain ⟨X, hX⟩ : ∃ X, gl u k = X := ⟨_, rfl⟩
            rw [hX] at ck BV TS
            obtain ⟨B, hB⟩ : ∃ B, (X >>> (8 * m)).setWidth 8 = B := ⟨_, rfl⟩
            rw [hB] at BV TS
            have w8 : IntKind.i64.wrap (8 * (m : Int)) = ((8 * m : Nat) : Int) := by rw [IntWalk.i64_in _ ⟨by omega, by omega⟩]; omega
            have hk25 : (k : Int) < 25 := by omega
            clear hX hB
            have ka : Keep (fun _ => False) wr (wr.alloc (.cells #[.int .u8 (B.toNat : Int)] 5)) := (Keep.refl _ _).alloc _
            have hown := O1.out.keep ka (fun _ _ h => h)
            have hsrc := one_srcY wr B
            have htl : ((dgB u).take (8 * k + m)).length + 1 ≤ 1000000 := by rw [List.length_take, dgB_len]; omega
            gi_wp2_with (gi_at_builtin; refine wpListIn_apW (.tmp 39) (.tmp 47) rfl rfl (.slice b (8 * k + m) c2) _ rfl hown _ 1 [B] rfl hsrc htl ?_)
            intro v1 V1 o1 f1 kk1
            rw [← TS.out] at o1
            have K2 := hid ((K1.out.trans ka).then kk1 (fun y hy => .inr (Nat.le_of_lt (F1.out y hy))))
            have F2 : ∀ y, v1.ownBlock = some y → w.heap.size < y := fun y hy => (f1 y hy).elim (F1.out y) (fun h => Nat.lt_of_lt_of_le R1.out.lt (Nat.le_trans ka.size (by rw [World.size_alloc]; exact h)))
            have R2 := hid ((R1.out.keep ka (fun h => h)).keep kk1 (fun hy => Nat.lt_irrefl _ (F1.out _ hy)))
            have H2 : V1.heap[D]? = some (.deferred (some [])) := (kk1.block D (lt_of_heap ((ka.block D (lt_of_heap H1.out) (fun h => h)).trans H1.out)) (fun hy => by
              obtain ⟨_, ⟨h0, _⟩ | ⟨g3, _, _, h0, _, hg3, _⟩⟩ := O1.out
              · rw [h0] at hy; cases hy
              · rw [h0] at hy
                cases hy
                rw [H1.out] at hg3
                cases hg3)).trans ((ka.block D (lt_of_heap H1.out) (fun h => h)).trans H1.out)
            have H2 := hid H2
            obtain ⟨a1, n1, hv1⟩ := o1.form
            rw [List.length_take, dgB_len, Nat.min_eq_left (by omega)] at hv1
            subst hv1
            have O2 := hid o1
            have F2 := hid F2
            clear ck o1 f1 kk1 hown hsrc ka htl O1 F1 R1 K1 H1 TS BV w8
            gi_wp2_with (fail)
            go_roundw
            case rel => exact ⟨m + 1, a1, n1, by omega, by go_num, rfl, O2.out, F2.out, R2.out, K2.out, H2.out⟩
            case measure => simp [intOf]; omega
          · obtain rfl : m = 8 := by omega
            have hml' : ¬ (((8 : Nat) : Int) < 8) := by omega
            clear hml hm
            gi_wp2_with (fail)
            go_roundw
            case rel => exact ⟨k + 1, b, c2, by omega, by go_num, rfl, O1.out, F1.out, R1.out, K1.out, H1.out⟩
            case measure => simp [intOf]; omega
      · obtain rfl : k = 4 := by omega
        have CV := bytes_conv O1.out.reads
        have DV : Hid (bstr ((dgB u).take (8 * 4)) = bstr (dgt l)) := hid (by rw [DA.out, List.take_of_length_le (by rw [dgB_len]; decide)])
        obtain ⟨V, hV⟩ : ∃ V, bstr ((dgB u).take (8 * 4)) = V := ⟨_, rfl⟩
        rw [hV] at CV DV
        have hlt' : ¬ (((4 : Nat) : Int) < 4) := by omega
        clear hlt hk hV
        gi_wp2_with (fail)
        refine ⟨by simp, .inl ⟨_, _, rfl, run_takeDeferred H1.out, ?_⟩⟩
        exact ⟨_, results_tmp rfl _ _ _, by rw [← DV.out]; rfl, K1.out.grown (grownBy_putObj' _ _ _) (fun y hy => by cases hy; exact .inr (Nat.le_of_lt hDb))⟩
  case stop =>
    rintro D c pre W _ _ h _
    exact h.elim
end Go.Proofs.Ytpijnpapmdnceaa
