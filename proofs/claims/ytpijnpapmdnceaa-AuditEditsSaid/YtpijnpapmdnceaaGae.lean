/- slices.Chunk: its iterator over blocks of 136 bytes. The walk of the program's digest. Two digests. Law 20: awake, and the digests of any bytes. Law 20: a list of bytes that came in; DigOf. Law 20: bytes that are added up are as bytes that are laid over each other; less than a block is one permutation. Law 20: DigOne. Law 20: DigSame. -/
import Derived.Test.YtpijnpapmdnceaaGad
import Derived.Test.YtpijnpapmdnceaaGaa
import Derived.RangeFuncNested
import Derived.RangeFuncBound
import Derived.RangeFuncCalls
import Derived.RangeFuncLeaves
import Derived.RangeFuncBox
import Derived.Shelf.Abstract
import Derived.Shelf.RegionOpen
import Derived.WalkKit
import Derived.OwnWalkIn
import Derived.TacticsInMore
import Derived.LoopNIn
import Derived.LoopIn
import Derived.WalkLawsBesides
import Derived.Test.YtpijnpapmdnceaaRows
import Derived.Laws.OwnMore

namespace Go.Proofs.Ytpijnpapmdnceaa
open Go Go.RowKit Go.Shelf

attribute [local go_sem] Oper.semAt_some

theorem fin_succ (n k : Nat) (h : k < n) : (List.finRange n).take (k + 1) = (List.finRange n).take k ++ [⟨k, h⟩] := by
  rw [List.take_succ_eq_append_getElem (by rw [List.length_finRange]; exact h)]
  simp
theorem fin_all (n k : Nat) (h : n ≤ k) : (List.finRange n).take k = List.finRange n := List.take_of_length_le (by rw [List.length_finRange]; exact h)
theorem fin_len (n k : Nat) : ((List.finRange n).take k).length ≤ k := List.length_take_le _ _

set_option maxRecDepth 100000 in
set_option maxHeartbeats 1000000 in
theorem chunk1_in (n : Nat) (hn : 1 ≤ n) (l Bs Bn b B g off cap T JJ : Nat) (hT : T = 136 * JJ) (hJJ : JJ ≤ 100) (hcap : T ≤ cap) (hmx : cap ≤ maxLen) (J Jx : List (Fin JJ) → World → Prop)
    (hY : ∀ pre x W, J pre W → pre.length < JJ → YieldAt Fence.wide (n - 1) Try.prog l #[.slice (some ⟨g, off + 136 * x.1, none⟩) 136 136] W fun e W' =>
      (e = .returned (.bool true) ∧ J (pre ++ [x]) W' ∧ Keep (fun k => k = b ∨ B ≤ k) W W') ∨ (e = .returned (.bool false) ∧ Jx (pre ++ [x]) W'))
    (W : World) (hs1 : Bs ≠ b) (hs2 : Bs < B) (hn1 : Bn ≠ b) (hn2 : Bn < B) (hBW : B ≤ W.heap.size) (hJ : AbidesFrom W.heap.size J) (hs : W.cell? ⟨Bs, 0, none⟩ = some (.slice (some ⟨g, off, none⟩) T cap))
    (hnn : W.cell? ⟨Bn, 0, none⟩ = some (.int .i64 136)) (h0 : J [] W) :
    CallsIn Fence.wide n Try.prog 44 #[.func (.yield l) #[] #[], .pointer (some ⟨Bs, 0, none⟩), .pointer (some ⟨Bn, 0, none⟩)] W fun e W' => (∃ v, e = .returned v) ∧
      ((∃ ys, ys = List.finRange JJ ∧ J ys W') ∨ (∃ pre, True ∧ Jx pre W')) := by
  unfold maxLen at hmx
  have HT := hid hT
  have HJ := hid hJ
  have HS := hid hs
  have HN := hid hnn
  have T0 : T ≤ 13600 := by omega
  clear hJ hs hnn hT
  have hro : Fence.wide.round = none := rfl
  refine callsIn_of_wp Try.func44 rfl trivial ?_ hro
  simp only [Try.ntmps44, List.size_toArray, List.length_cons, List.length_nil, Nat.reduceAdd, Nat.reduceSub, Array.replicate_succ, Array.replicate_zero, List.push_toArray, List.append_toArray, List.nil_append, List.cons_append]
  gi_wp2
  gi_loopw [4] (fun i wr => ∃ k p : Nat, k ≤ JJ ∧ p = 136 * k ∧ i = .int .i64 p ∧ J ((List.finRange JJ).take k) wr ∧ Keep (fun k => k = b ∨ B ≤ k) W wr)
    (fun i _ => T - (intOf i).toNat)
  case atStart => exact ⟨0, 0, Nat.zero_le _, rfl, rfl, h0, Keep.refl _ _⟩
  case round =>
    obtain ⟨k, p, hk, hp, rfl, hJs, hK⟩ := hrel
    have cs := (hK.cell (p := ⟨Bs, 0, none⟩) (by dsimp only; omega) (by dsimp only; omega)).trans HS.out
    have cn := (hK.cell (p := ⟨Bn, 0, none⟩) (by dsimp only; omega) (by dsimp only; omega)).trans HN.out
    by_cases hlt : k < JJ
    · have hpT : p + 136 ≤ T := by have := HT.out; omega
      have hJn := HJ.out _ _ wr.drew none hJs ⟨rfl, rfl, rfl, Nat.le_refl _, fun _ _ _ => rfl⟩ (fun r e => by cases e)
      obtain ⟨fn, tmps, assign, body, hy, hR⟩ := hY _ ⟨k, hlt⟩ _ hJn (Nat.lt_of_le_of_lt (fin_len JJ k) hlt)
      have FS := hid (fin_succ JJ k hlt)
      have HP := hid hp
      have hKd := hid hK.drew
      rw [← hp] at hy
      have cs2 : wr.drew.cell? ⟨Bs, 0, none⟩ = some (.slice (some ⟨g, off, none⟩) T cap) := cs
      have hpt : (p : Int) < (T : Int) := by omega
      have hp1 : (p : Int) ≤ (T : Int) := by omega
      have hp2 : ¬ cap = p := by omega
      have hp3 : (p : Int) + 136 ≤ (cap : Int) := by omega
      clear hJs hK hp
      gi_wp2
      refine wpIn_region_text2 (r := none) [0,0,0,0,0,0,0] (fun W' => W'.cell? ⟨Bs, 0, none⟩ = some (.slice (some ⟨g, off, none⟩) T cap) ∧ W'.cell? ⟨Bn, 0, none⟩ = some (.int .i64 136)) (by kernel_rfl) (by kernel_rfl) (by kernel_rfl) ⟨cs, cn⟩ ?_
      repeat (first
        | (refine' wpT_calm (v := _) (by rfl) (fun W hW => ?_) ?_; rotate_left
           · ((try dsimp only at hW); go_simp; first | done | rfl)
           simp only [Act.put, List.setIfInBounds_toArray, List.set_cons_zero, List.set_cons_succ])
        | (refine' wpT_reads (v := _) (by rfl) ?_ ?_; rotate_left
           · (go_simp; first | done | rfl)
           simp only [Act.put, List.setIfInBounds_toArray, List.set_cons_zero, List.set_cons_succ])
        | (refine wpT_skip (by rfl) rfl ?_; simp only [Act.put, List.setIfInBounds_toArray, List.set_cons_zero, List.set_cons_succ])
        | (refine wpT_does (by rfl) (fun K hK => ?_); go_simp; refine hK _ _ ?_ ?_
           · (trivial)
           clear hK K; try simp only [Act.put, List.setIfInBounds_toArray, List.set_cons_zero, List.set_cons_succ])
        | (refine wpT_last (by rfl) (fun K hK => ?_); go_simp; refine hK _ _ ?_; clear hK K)
        | (refine wpT_nil ?_))
      have hmin : (if ((T - p : Nat) : Int) < 136 then ((T - p : Nat) : Int) else 136) = 136 := if_neg (by omega)
      rw [hmin]
      clear cs cn hmin hpt hp1
      gi_wp2
      refine hR.mono ?_
      rintro _ W3 (⟨rfl, hJ3, hk3⟩ | ⟨rfl, hJx3⟩)
      · have K3 := hid (hKd.out.trans hk3)
        have J3 := hid hJ3
        have cn3 : W3.cell? ⟨Bn, 0, none⟩ = some (.int .i64 136) := (K3.out.cell (p := ⟨Bn, 0, none⟩) (by dsimp only; omega) (by dsimp only; omega)).trans HN.out
        clear hk3 hJ3 hJn cs2 hKd
        gi_wp2
        go_roundw
        case rel => exact ⟨k + 1, p + 136, by omega, by have := HP.out; omega, by go_num, by rw [FS.out]; exact J3.out, K3.out⟩
        case measure => simp [intOf]; omega
      · clear hJn cs2 hKd
        gi_wp2
        refine bodyPost_ret (results_none rfl _ _ _) rfl ?_
        exact ⟨⟨_, rfl⟩, .inr ⟨_, trivial, hJx3⟩⟩
    · have hall := hid (fin_all JJ k (by omega))
      have hpt : ¬ ((p : Int) < (T : Int)) := by have := HT.out; omega
      have JJs := hid hJs
      clear hJs hlt hk hp
      gi_wp2
      go_end0
      exact ⟨⟨_, rfl⟩, .inl (by have := JJs.out; rw [hall.out] at this; first | exact this | exact ⟨_, rfl, this⟩)⟩

/-- Chunk itself: the list and the number are boxed; the function value captures both boxes. -/
theorem chunk_any (a : Option Addr) (len cap : Nat) (w : World) :
    Calls Try.prog 31 #[.slice a len cap, .int .i64 136] w fun e w' => e = .returned (.func (.func 44) #[] #[.pointer (some ⟨w.heap.size, 0, none⟩), .pointer (some ⟨w.heap.size + 1, 0, none⟩)]) ∧
      w' = (w.alloc (.cells #[.slice a len cap] 22)).alloc (.cells #[.int .i64 136] 3) := by
  go_enter Try.func31, Try.ntmps31
  go_wp2
  go_ret
  exact ⟨rfl, rfl⟩

/-- All blocks come, in order. -/
theorem chunk_stops (n : Nat) (hn : 1 ≤ n) (Bs Bn b g off cap T JJ : Nat) (w : World) (hT : T = 136 * JJ) (hJJ : JJ ≤ 100) (hcap : T ≤ cap) (hmx : cap ≤ maxLen) (hs1 : Bs ≠ b) (hs2 : Bs < w.heap.size) (hn1 : Bn ≠ b) (hn2 : Bn < w.heap.size)
    (hs : w.cell? ⟨Bs, 0, none⟩ = some (.slice (some ⟨g, off, none⟩) T cap)) (hnn : w.cell? ⟨Bn, 0, none⟩ = some (.int .i64 136)) :
    SeqStopsK Fence.wide n Try.prog 44 #[.pointer (some ⟨Bs, 0, none⟩), .pointer (some ⟨Bn, 0, none⟩)] (fun x : Fin JJ => #[.slice (some ⟨g, off + 136 * x.1, none⟩) 136 136]) (Keep (fun k => k = b ∨ w.heap.size ≤ k)) (fun ys => ys = List.finRange JJ) (fun _ => True) JJ w :=
  fun l J Jx W hW hJ _ hY h0 =>
    chunk1_in n hn l Bs Bn b w.heap.size g off cap T JJ hT hJJ hcap hmx J Jx hY W hs1 hs2 hn1 hn2 hW.size hJ ((hW.cell (p := ⟨Bs, 0, none⟩) hs2).trans hs) ((hW.cell (p := ⟨Bn, 0, none⟩) hn2).trans hnn) h0
end Go.Proofs.Ytpijnpapmdnceaa

namespace Go.Proofs.Ytpijnpapmdnceaa
open Go Go.RowKit Go.Shelf

attribute [local go_sem] Oper.semAt_some

/-- The state behind these blocks. -/
def stB (l : List B8) {n : Nat} (pre : List (Fin n)) : List L64 := pre.foldl (fun s x => perm (lanesK (padF l) (136 * x.1) s 17)) z25
theorem stB_snoc (l : List B8) {n : Nat} (pre : List (Fin n)) (x : Fin n) : stB l (pre ++ [x]) = perm (lanesK (padF l) (136 * x.1) (stB l pre) 17) := by simp [stB]
theorem stB_len (l : List B8) {n : Nat} (pre : List (Fin n)) : (stB l pre).length = 25 := by
  have h : ∀ (pre : List (Fin n)) (s : List L64), s.length = 25 → (pre.foldl (fun s x => perm (lanesK (padF l) (136 * x.1) s 17)) s).length = 25 := by
    intro pre
    induction pre with
    | nil => intro s hs; rw [List.foldl_nil]; exact hs
    | cons x pre ih =>
      intro s hs
      rw [List.foldl_cons]
      have h1 := perm_length (lanesK (padF l) (136 * x.1) s 17) (by rw [lanesK_len, hs])
      exact ih _ h1
  exact h pre z25 rfl
theorem stB_take (l : List B8) (n : Nat) : ∀ k, k ≤ n → stB l ((List.finRange n).take k) = dgS l k
  | 0, _ => rfl
  | k + 1, h => by rw [fin_succ n k h, stB_snoc, stB_take l n k (by omega), dgS]
theorem stB_all (l : List B8) (n : Nat) : stB l (List.finRange n) = dgS l n := by
  have := stB_take l n n (Nat.le_refl _)
  rwa [fin_all n n (Nat.le_refl _)] at this

theorem ownFrom_row (b T B : Nat) (hb : b < B) {β : Type} (f : β → List L64) : OwnFrom B (fun (x : β) W => RowL W b T (f x)) := fun s W W' row hs hg hr =>
  (hg.block b (RowL.lt hs) (fun e => by have := (hr b e.symm).1; omega)).trans hs
theorem ownFrom_keep {β : Type} {F : Nat → Prop} {B : Nat} {w₀ : World} (hF : ∀ k, B ≤ k → F k) : OwnFrom B (fun (_ : β) W => Keep F w₀ W) := fun _ _ _ _ hs hg hr =>
  hs.grown hg (fun k e => .inl (hF k (hr k e).1))
theorem Keep.others {b T : Nat} {s : List L64} {W W' : World} (hK : Keep (fun k => k = b) W W') (hR : RowL W b T s) : KeepsOthers W W' :=
  ⟨hK.size, fun k o hk ho => (hK.block k (lt_of_heap hk) (fun e => by
    subst e
    rw [hR] at hk
    cases hk
    cases ho)).trans hk⟩

theorem Keep.put {F : Nat → Prop} (W : World) (l : Nat) (o : Obj) (h : F l) : Keep F W (W.putObj l o) := (Keep.refl F W).grown (grownBy_putObj' W l o) (fun k e => by cases e; exact .inl h)

section
variable {m l : Nat} {ops : Array Oper} {rest : List Oper} {o : Oper} {a : Act} {w : World} {Q : Exit → Act → World → Prop}
theorem wpListIn_ldR (x : Operand) (hgd : o.guard = none) (ho : o.op = .load 28 x) (g : Nat) (hx : a.eval x = .pointer (some ⟨g, 0, none⟩)) (s : List L64) (hs : s.length = 25) (hg : RowL w g 28 s)
    (h : wpListIn (Fence.wide.inRound l) m Try.prog ops Q rest (a.put o.dst (.agg (stv s).toArray)) w) : wpListIn (Fence.wide.inRound l) m Try.prog ops Q (o :: rest) a w :=
  wpListIn_mild (r := some l) hgd (by unfold mild; rw [ho]) (fun _ hK => wp_ld x ho g hx s hs hg (hK _ _ h))
theorem wpListIn_stR (x y : Operand) (hgd : o.guard = none) (ho : o.op = .store 28 x y) (g : Nat) (hx : a.eval x = .pointer (some ⟨g, 0, none⟩)) (s : List L64) (hs : s.length = 25) (hy : a.eval y = .agg (stv s).toArray) (u : List L64) (hu : u.length = 25) (hg : RowL w g 28 u)
    (h : wpListIn (Fence.wide.inRound l) m Try.prog ops Q rest (a.put o.dst undef) (w.setRow g (stv s).toArray)) : wpListIn (Fence.wide.inRound l) m Try.prog ops Q (o :: rest) a w :=
  wpListIn_mild (r := some l) hgd (by unfold mild; rw [ho]) (fun _ hK => wp_st x y ho g hx s hs hy u hu hg (hK _ _ h))
theorem wpListIn_apW (x y : Operand) (hgd : o.guard = none)
    (ho : o.op = .call { callee := .builtin .append, args := #[x, y], argTypes := #[22, 22] })
    (v : Value) (L : List B8) (hs : a.eval x = v) (hown : OwnY w v L) (sv : Value) (n : Nat) (news : List B8) (hx : a.eval y = sv) (hsrc : Src w sv n 1 (flat8 news)) (hn : L.length + n ≤ 1000000)
    (h : ∀ v' w', OwnY w' v' (L ++ news) → (∀ k, v'.ownBlock = some k → v.ownBlock = some k ∨ w.heap.size ≤ k) → Keep (fun k => v.ownBlock = some k) w w' → wpListIn Fence.wide m Try.prog ops Q rest (a.put o.dst v') w') : wpListIn Fence.wide m Try.prog ops Q (o :: rest) a w :=
  wpListIn_mild (r := none) hgd (by unfold mild; rw [ho]) (fun _ hK => wp_append_bytes w x y ho v L hs hown sv n news hx hsrc hn (fun v' w' h1 h2 h3 => hK _ _ (h v' w' h1 h2 h3)))
end

/-- Eight bytes of a list. -/
def sub8 (L : List B8) (p : Nat) : List B8 := (List.range 8).map fun i => gb L (p + i)
theorem sub8_len (L : List B8) (p : Nat) : (sub8 L p).length = 8 := by simp [sub8]
theorem sub8_gb (L : List B8) (p i : Nat) (h : i < 8) : gb (sub8 L p) i = gb L (p + i) := by
  rw [gb_get _ _ (by rw [sub8_len]; exact h)]; simp [sub8]
theorem sub8_num (l L : List B8) (p : Nat) (h : ∀ i, i < 8 → gb L (p + i) = padF l (p + i)) : num (sub8 L p) (sub8 L p).length = numX (padF l) p 8 := by
  rw [sub8_len]
  exact num_eq _ _ _ 8 (fun i hi => by rw [sub8_gb L p i hi]; exact h i hi)
theorem sub8_read {W : World} {g n cap : Nat} {L : List B8} (h : ReadY W (.slice (some ⟨g, 0, none⟩) n cap) L) (p c : Nat) (hp : p + 8 ≤ n) : ReadY W (.slice (some ⟨g, p, none⟩) 8 c) (sub8 L p) := by
  obtain ⟨a, c', hv, rfl⟩ | ⟨g', off, c', hv, hg, hm, hc⟩ := h
  · simp only [Value.slice.injEq] at hv
    omega
  · simp only [Value.slice.injEq, Option.some.injEq, Addr.mk.injEq, and_true] at hv
    obtain ⟨⟨rfl, rfl⟩, rfl, rfl⟩ := hv
    refine .inr ⟨g, p, c, by rw [sub8_len], hg, by rw [sub8_len]; unfold maxLen; omega, fun i hi => ?_⟩
    rw [sub8_len] at hi
    rw [sub8_gb L p i hi]
    have := hc (p + i) (by omega)
    rwa [Nat.zero_add] at this

theorem dgB_len (s : List L64) : (dgB s).length = 32 := by simp [dgB]
theorem dgB_take (s : List L64) (k m : Nat) (hk : k < 4) (hm : m < 8) : (dgB s).take (8 * k + m + 1) = (dgB s).take (8 * k + m) ++ [(gl s k >>> (8 * m)).setWidth 8] := by
  rw [List.take_succ_eq_append_getElem (by rw [dgB_len]; omega)]
  have e1 : (8 * k + m) / 8 = k := by omega
  have e2 : (8 * k + m) % 8 = m := by omega
  simp [dgB, byt, e1, e2]

set_option maxRecDepth 100000 in
set_option maxHeartbeats 2000000 in
theorem of_any {w : World} {v : Value} {l : List B8} (h : ReadY w v l) (hl : l.length ≤ 1000) :
    Calls Try.prog 13 #[v] w fun e w' => e = .returned (bstr (dgt l)) ∧ Keep (fun _ => False) w w' := by
  refine (callsIn_wide (n := 4)).1 ?_
  have hro : Fence.wide.round = none := rfl
  obtain ⟨a, c, hv⟩ := h.form
  have H := hid h
  subst hv
  obtain ⟨n, hn⟩ : ∃ n, l.length = n := ⟨_, rfl⟩
  have HN := hid hn
  rw [hn] at H hl ⊢
  clear h hn
  have r0 : RowL (w.alloc (.cells (stv z25).toArray 28)) w.heap.size 28 z25 := heap_alloc_new w _
  have k0 : Keep (fun _ => False) w (w.alloc (.cells (stv z25).toArray 28)) := (Keep.refl _ _).alloc _
  have h0 := hid (H.out.keep k0 (fun _ _ h => h))
  have r0 := hid r0
  have k0 := hid k0
  have dv := hid (show allN n / 136 = n / 136 + 1 from by unfold allN; omega)
  have al : Hid (allN n = 136 * (n / 136 + 1)) := hid (by unfold allN; omega)
  have DA : Hid (dgt l = dgB (dgS l (n / 136 + 1))) := hid (by unfold dgt; rw [HN.out, dv.out])
  have PL : Hid ((padL l).length = 136 * (n / 136 + 1)) := hid (by rw [padL_len, HN.out, al.out])
  have PG : Hid (∀ i, i < 136 * (n / 136 + 1) → gb (padL l) i = padF l i) := hid (fun i hi => padL_gb l i (by rw [HN.out, al.out]; exact hi))
  obtain ⟨JJ, hJJ⟩ : ∃ x, n / 136 + 1 = x := ⟨_, rfl⟩
  have j100 : JJ ≤ 100 := by omega
  have j0 : 0 < JJ := by omega
  rw [hJJ] at DA PL PG
  clear al dv hJJ
  refine callsIn_of_wp_marks Try.func13 rfl trivial ?_ hro
  simp only [Try.ntmps13, List.size_toArray, List.length_cons, List.length_nil, Nat.reduceAdd, Nat.reduceSub, Array.replicate_succ, Array.replicate_zero, List.push_toArray, List.append_toArray, List.nil_append, List.cons_append]
  gi_wp2_with (fail)
  refine ⟨trivial, ?_⟩
  refine (callsIn_wide.2 (padded_any h0.out (by rw [HN.out]; omega))).mono ?_
  rintro _ w1 ⟨v1, rfl, o1, f1, k1⟩
  have R1 := r0.out.keep k1 (fun h => h)
  have K1 := k0.out.trans k1
  have rd1 := o1.reads
  obtain ⟨g, cap, hv1, hc1, hc2, -⟩ := o1.block (by rw [PL.out]; omega)
  have hg1 := f1 g (by rw [hv1]; rfl)
  have hg2 := (o1.lt g (by rw [hv1]; rfl)).2
  rw [PL.out] at hv1 hc1
  subst hv1
  have hgs : w.heap.size < g := by rw [World.size_alloc] at hg1; omega
  have RD1 := hid rd1
  have R1 := hid R1
  have K1 := hid K1
  clear o1 f1 k1 hg1 rd1 r0 k0 h0
  gi_wp2_with (fail)
  refine ⟨trivial, ?_⟩
  refine (callsIn_wide.2 (chunk_any _ _ _ _)).mono ?_
  rintro _ wL ⟨rfl, hwL⟩
  have sz : wL.heap.size = w1.heap.size + 1 + 1 := by rw [hwL, World.size_alloc, World.size_alloc]
  have cS : ((w1.alloc (.cells #[.slice (some ⟨g, 0, none⟩) (136 * JJ) cap] 22)).alloc (.cells #[.int .i64 136] 3)).cell? ⟨w1.heap.size, 0, none⟩ = some (.slice (some ⟨g, 0, none⟩) (136 * JJ) cap) := ((Boxed.new w1 22 _).alloc _).cell
  have cN := (Boxed.new (w1.alloc (.cells #[.slice (some ⟨g, 0, none⟩) (136 * JJ) cap] 22)) 3 (.int .i64 136)).cell
  rw [World.size_alloc] at cN
  have k2 : Keep (fun _ => False) w1 ((w1.alloc (.cells #[.slice (some ⟨g, 0, none⟩) (136 * JJ) cap] 22)).alloc (.cells #[.int .i64 136] 3)) := ((Keep.refl _ _).alloc _).alloc _
  have RL := hid (R1.out.keep k2 (fun h => h))
  have KL := hid (K1.out.trans k2)
  have RDL := hid (RD1.out.keep k2 (fun _ _ h => h))
  have hw1 := K1.out.size
  have hb1 : w.heap.size < w1.heap.size := R1.out.lt
  rw [← hwL] at cS cN RL KL RDL
  clear hwL k2 R1 K1 RD1
  gi_wp2_with (fail)
  refine wpIn_rangeFunc_ownF hro (by omega) (gf := 44) (lb := #[.pointer (some ⟨w1.heap.size, 0, none⟩), .pointer (some ⟨w1.heap.size + 1, 0, none⟩)]) rfl trivial (enters_of Try.func44 (by kernel_rfl) rfl)
    (chunk_stops (4 - 1) (by omega) w1.heap.size (w1.heap.size + 1) w.heap.size g 0 cap (136 * JJ) JJ wL rfl j100 hc1 hc2 (by omega) (by omega) (by omega) (by omega) cS cN) (fun h k => h.trans k) (fun W l o o' hl ho hc _ => Keep.put W l o' (.inr hl)) (Below.refl _ _) (fun _ => rfl)
    (fun pre W => RowL W w.heap.size 28 (stB l pre) ∧ Keep (fun k => k = w.heap.size ∨ wL.heap.size ≤ k) wL W)
    (fun _ _ _ => False)
    (OwnFrom.and (ownFrom_row _ _ _ (by omega) _) (ownFrom_keep (fun k hk => .inr hk)))
    (fun _ _ _ _ _ hs _ _ => hs)
    ⟨RL.out, Keep.refl _ _⟩
    (fun x => { tmps := #[.slice a n c, undef, .string { data := #[] }, .pointer (some ⟨w.heap.size, 0, none⟩), .slice (some ⟨g, 136 * x.1, none⟩) 136 136, undef, undef, undef, undef, .slice a n c, .slice (some ⟨g, 0, none⟩) (136 * JJ) cap, .func (.func 44) #[] #[.pointer (some ⟨w1.heap.size, 0, none⟩), .pointer (some ⟨w1.heap.size + 1, 0, none⟩)], .slice (some ⟨g, 136 * x.1, none⟩) 136 136, undef, undef, undef, undef, undef, undef, undef, undef, undef, undef, undef, undef, undef, undef, undef, undef, undef, undef, undef, undef, undef, undef, undef, undef, undef, undef, undef, undef, undef, undef, undef, undef, undef, undef, undef, undef, undef, undef, undef, undef], defers := [] }) ?assign ?body ?done ?stop
  case assign =>
    intro l x W K hK
    gi_wp2
    exact hK
  case body =>
    rintro lp pre x W ⟨hR, hK⟩ _
    have hx : 136 * x.1 + 136 ≤ 136 * JJ := by have := x.2; omega
    obtain ⟨P, hP⟩ : ∃ p, 136 * x.1 = p := ⟨_, rfl⟩
    have ST := hid (stB_snoc l pre x)
    have UL := hid (stB_len l pre)
    rw [hP] at hx ST
    obtain ⟨u, hu⟩ : ∃ u, stB l pre = u := ⟨_, rfl⟩
    rw [hu] at hR UL ST
    have RD := hid (RDL.out.keep hK (fun y hy => by cases hy; dsimp only; omega))
    have R0 := hid hR
    have K0 := hid hK
    simp only [hP]
    clear hR hK hP hu
    gi_wp2_with (fail)
    gi_loopw [5] (fun i wr => ∃ k p : Nat, k ≤ 17 ∧ p = 8 * k ∧ i = .int .i64 p ∧ RowL wr w.heap.size 28 (lanesK (padF l) P u k) ∧ Keep (fun k => k = w.heap.size) W wr)
      (fun i _ => 136 - (intOf i).toNat)
    case atStart => exact ⟨0, 0, Nat.zero_le _, rfl, rfl, R0.out, Keep.refl _ _⟩
    case round =>
      obtain ⟨k, p, hk, hp, rfl, hR, hK⟩ := hrel
      have R1 := hid hR
      have K1 := hid hK
      clear hR hK
      by_cases hlt : k < 17
      · have LL := hid (show (lanesK (padF l) P u k).length = 25 from by rw [lanesK_len, UL.out])
        have LS := hid (lanesK_succ (padF l) P u k)
        have SR := hid (sub8_read (RD.out.keep K1.out (fun y hy => by cases hy; dsimp only; omega)) (P + p) (136 - p) (by omega))
        have SN := hid (sub8_num l (padL l) (P + p) (fun i hi => PG.out _ (by omega)))
        rw [← hp] at LS
        obtain ⟨v, hv⟩ : ∃ v, lanesK (padF l) P u k = v := ⟨_, rfl⟩
        rw [hv] at R1 LL LS
        obtain ⟨X, hX⟩ : ∃ X, gl v k = X := ⟨_, rfl⟩
        have ck := R1.out.cell k (by rw [LL.out]; omega)
        have fk := R1.out.fro k
        rw [hX] at ck LS
        obtain ⟨N, hN⟩ : ∃ N, numX (padF l) (P + p) 8 = N := ⟨_, rfl⟩
        rw [hN] at SN LS
        have XV := hid (xor_val X N)
        have HP := hid hp
        have hpt : (p : Int) < 136 := by omega
        have hq : (p : Int) / 8 = (k : Int) := by omega
        have hk25 : (k : Int) < 25 := by omega
        have wk : IntKind.i64.wrap (k : Int) = (k : Int) := IntWalk.i64_in _ ⟨by omega, by omega⟩
        have hp8 : (p : Int) + 8 ≤ 136 := by omega
        have wp8 : IntKind.i64.wrap ((p : Int) + 8) = (p : Int) + 8 := IntWalk.i64_in _ ⟨by omega, by omega⟩
        have hle : (p : Int) ≤ (p : Int) + 8 := by omega
        have hp136 : ¬ 136 = p := by omega
        clear hp hv hX hN
        gi_wp2_with (fail)
        refine wpIn_region_text2 (r := some lp) [0,0,0,0,0,0,0,0,0,2,0,0,3] (fun W' => W'.cell? ⟨w.heap.size, k, none⟩ = some (.int .u64 (X.toNat : Int))) (by kernel_rfl) (by kernel_rfl) (by kernel_rfl) ck ?_
        repeat (first
          | (refine' wpT_calm (v := _) (by rfl) (fun W hW => ?_) ?_; rotate_left
             · ((try dsimp only at hW); go_simp; first | done | rfl)
             simp only [Act.put, List.setIfInBounds_toArray, List.set_cons_zero, List.set_cons_succ])
          | (refine' wpT_reads (v := _) (by rfl) ?_ ?_; rotate_left
             · (go_simp; first | done | rfl)
             simp only [Act.put, List.setIfInBounds_toArray, List.set_cons_zero, List.set_cons_succ])
          | (refine wpT_skip (by rfl) rfl ?_; simp only [Act.put, List.setIfInBounds_toArray, List.set_cons_zero, List.set_cons_succ])
          | (refine wpT_does (by rfl) (fun K hK => ?_); go_simp; refine hK _ _ ?_ ?_
             · (trivial)
             clear hK K; try simp only [Act.put, List.setIfInBounds_toArray, List.set_cons_zero, List.set_cons_succ])
          | (refine wpT_last (by rfl) (fun K hK => ?_); go_simp; refine hK _ _ ?_; clear hK K)
          | (refine wpT_nil ?_))
        refine wpT_does (by rfl) (fun K hK => ?_)
        go_simp
        rw [show ((p : Int) + 8).toNat - p = 8 from by omega]
        refine (number_any (SR.out.keep ((Keep.refl (fun _ => False) _).drew) (fun _ _ h => h)) (by rw [sub8_len]; decide)).mono ?_
        rintro _ _ ⟨rfl, rfl⟩
        rw [SN.out]
        refine hK _ _ ck ?_
        clear hK K
        try simp only [List.getElem_toArray, List.getElem_cons_zero, List.getElem_cons_succ, Act.put, List.setIfInBounds_toArray, List.set_cons_zero, List.set_cons_succ]
        repeat (first
          | (refine' wpT_calm (v := _) (by rfl) (fun W hW => ?_) ?_; rotate_left
             · ((try dsimp only at hW); go_simp; first | done | rfl)
             simp only [Act.put, List.setIfInBounds_toArray, List.set_cons_zero, List.set_cons_succ])
          | (refine' wpT_reads (v := _) (by rfl) ?_ ?_; rotate_left
             · (go_simp; first | done | rfl)
             simp only [Act.put, List.setIfInBounds_toArray, List.set_cons_zero, List.set_cons_succ])
          | (refine wpT_skip (by rfl) rfl ?_; simp only [Act.put, List.setIfInBounds_toArray, List.set_cons_zero, List.set_cons_succ])
          | (refine wpT_does (by rfl) (fun K hK => ?_); go_simp; refine hK _ _ ?_ ?_
             · (trivial)
             clear hK K; try simp only [Act.put, List.setIfInBounds_toArray, List.set_cons_zero, List.set_cons_succ])
          | (refine wpT_last (by rfl) (fun K hK => ?_); go_simp; refine hK _ _ ?_; clear hK K)
          | (refine wpT_nil ?_))
        rw [XV.out]
        have R2 := hid ((R1.out.set k (X ^^^ N)).keep ((Keep.refl (fun _ => False) _).drew) (fun h => h))
        have K2 := hid ((K1.out.setCell (p := ⟨w.heap.size, k, none⟩) (.inl rfl) (.int .u64 ((X ^^^ N).toNat : Int))).drew)
        have HLS : Hid ((lanesK (padF l) P u (k + 1)) = v.set k (X ^^^ N)) := hid LS.out
        clear ck fk R1 K1 hq wk hle hp8 hpt hp136
        gi_wp2_with (fail)
        go_roundw
        case rel => exact ⟨k + 1, p + 8, by omega, by have := HP.out; omega, by go_num, by rw [HLS.out]; exact R2.out, K2.out⟩
        case measure => have := HP.out; simp [intOf]; omega
      · obtain rfl : k = 17 := by omega
        have LL := hid (show (lanesK (padF l) P u 17).length = 25 from by rw [lanesK_len, UL.out])
        obtain ⟨v, hv⟩ : ∃ v, lanesK (padF l) P u 17 = v := ⟨_, rfl⟩
        rw [hv] at R1 LL ST
        have hpt : ¬ (p : Int) < 136 := by omega
        clear hv hlt hk hp
        gi_wp2_with (with_reducible refine wpListIn_ldR (.tmp 3) rfl rfl _ rfl v LL.out R1.out ?_)
        refine ⟨trivial, ?_⟩
        refine (callsIn_wide.2 (perm_any v LL.out _)).mono ?_
        rintro _ W3 ⟨rfl, k3⟩
        have hp2 := perm_length _ LL.out
        have R3 := hid (R1.out.keep k3 (fun h => h))
        have K3 := hid (K1.out.then k3 (fun _ h => h.elim))
        obtain ⟨z, hz⟩ : ∃ z, perm v = z := ⟨_, rfl⟩
        rw [hz] at hp2 ST ⊢
        clear hz k3 R1 K1
        gi_wp2_with (with_reducible refine wpListIn_stR (.tmp 3) (.tmp 32) rfl rfl _ rfl z hp2 rfl v LL.out R3.out ?_)
        have K4 := K3.out.setRowOwn rfl (stv z).toArray
        exact ⟨K4.others R0.out, K4.mono (fun y _ h => .inl h), by rw [ST.out]; exact R3.out.row, K0.out.trans (K4.mono (fun y _ h => .inl h))⟩
  case done =>
    rintro D ys W hD rfl ⟨hR, hK⟩ hKD
    rw [stB_all] at hR
    have UL := hid (dgS_len l JJ)
    obtain ⟨u, hu⟩ : ∃ u, dgS l JJ = u := ⟨_, rfl⟩
    rw [hu] at hR UL DA
    have R0 := hid hR
    have K0 := hid ((KL.out.then hK (fun y hy => by rcases hy with h | h; exact .inr (Nat.le_of_eq h.symm); exact .inr (by omega))))
    have HD := hid hKD
    have hDb : w.heap.size < D := by omega
    clear hR hK hKD hu RL KL RDL PG PL
    gi_wp2_with (fail)
    gi_loopw [6, 33] (fun s i wr => ∃ (k : Nat) (b : Option Addr) (c : Nat), k ≤ 4 ∧ i = .int .i64 k ∧ s = .slice b (8 * k) c ∧ OwnY wr (.slice b (8 * k) c) ((dgB u).take (8 * k)) ∧ (∀ y, (Value.slice b (8 * k) c).ownBlock = some y → w.heap.size < y) ∧ RowL wr w.heap.size 28 u ∧ Keep (fun _ => False) w wr ∧ wr.heap[D]? = some (.deferred (some [])))
      (fun _ i _ => 4 - (intOf i).toNat)
    case atStart => exact ⟨0, none, 0, Nat.zero_le _, rfl, rfl, OwnY.nil _, (fun y hy => by cases hy), R0.out, K0.out, HD.out⟩
    case round =>
      obtain ⟨k, b, c2, hk, rfl, rfl, hO, hF, hR, hK, hH⟩ := hrel
      have O1 := hid hO
      have F1 := hid hF
      have R1 := hid hR
      have K1 := hid hK
      have H1 := hid hH
      clear hO hF hR hK hH R0 K0 HD
      by_cases hlt : k < 4
      · have hlt' : (k : Int) < 4 := by omega
        gi_wp2_with (fail)
        gi_loopw [6, 36] (fun s i wr => ∃ (m : Nat) (b : Option Addr) (c : Nat), m ≤ 8 ∧ i = .int .i64 m ∧ s = .slice b (8 * k + m) c ∧ OwnY wr (.slice b (8 * k + m) c) ((dgB u).take (8 * k + m)) ∧ (∀ y, (Value.slice b (8 * k + m) c).ownBlock = some y → w.heap.size < y) ∧ RowL wr w.heap.size 28 u ∧ Keep (fun _ => False) w wr ∧ wr.heap[D]? = some (.deferred (some [])))
          (fun _ i _ => 8 - (intOf i).toNat)
        case atStart => exact ⟨0, b, c2, Nat.zero_le _, rfl, rfl, O1.out, F1.out, R1.out, K1.out, H1.out⟩
        case round =>
          obtain ⟨m, b, c2, hm, rfl, rfl, hO, hF, hR, hK, hH⟩ := hrel
          clear O1 F1 R1 K1 H1
          have O1 := hid hO
          have F1 := hid hF
          have R1 := hid hR
          have K1 := hid hK
          have H1 := hid hH
          clear hO hF hR hK hH
          by_cases hml : m < 8
          · have hml' : (m : Int) < 8 := by omega
            have TS := hid (dgB_take u k m hlt hml)
            have BV := byt_val (gl u k) (8 * m)
            have ck := R1.out.cell k (by rw [UL.out]; omega)
            obtain ⟨X, hX⟩ : ∃ X, gl u k = X := ⟨_, rfl⟩
            rw [hX] at ck BV TS
            obtain ⟨B, hB⟩ : ∃ B, (X >>> (8 * m)).setWidth 8 = B := ⟨_, rfl⟩
            rw [hB] at BV TS
            have w8 : IntKind.i64.wrap (8 * (m : Int)) = ((8 * m : Nat) : Int) := by rw [IntWalk.i64_in _ ⟨by omega, by omega⟩]; omega
            have hk25 : (k : Int) < 25 := by omega
            clear hX hB
            have ka : Keep (fun _ => False) wr (wr.alloc (.cells #[.int .u8 (B.toNat : Int)] 5)) := (Keep.refl _ _).alloc _
            have hown := O1.out.keep ka (fun _ _ h => h)
            have hsrc := one_srcY wr B
            have htl : ((dgB u).take (8 * k + m)).length + 1 ≤ 1000000 := by rw [List.length_take, dgB_len]; omega
            gi_wp2_with (gi_at_builtin; refine wpListIn_apW (.tmp 39) (.tmp 47) rfl rfl (.slice b (8 * k + m) c2) _ rfl hown _ 1 [B] rfl hsrc htl ?_)
            intro v1 V1 o1 f1 kk1
            rw [← TS.out] at o1
            have K2 := hid ((K1.out.trans ka).then kk1 (fun y hy => .inr (Nat.le_of_lt (F1.out y hy))))
            have F2 : ∀ y, v1.ownBlock = some y → w.heap.size < y := fun y hy => (f1 y hy).elim (F1.out y) (fun h => Nat.lt_of_lt_of_le R1.out.lt (Nat.le_trans ka.size (by rw [World.size_alloc]; exact h)))
            have R2 := hid ((R1.out.keep ka (fun h => h)).keep kk1 (fun hy => Nat.lt_irrefl _ (F1.out _ hy)))
            have H2 : V1.heap[D]? = some (.deferred (some [])) := (kk1.block D (lt_of_heap ((ka.block D (lt_of_heap H1.out) (fun h => h)).trans H1.out)) (fun hy => by
              obtain ⟨_, ⟨h0, _⟩ | ⟨g3, _, _, h0, _, hg3, _⟩⟩ := O1.out
              · rw [h0] at hy; cases hy
              · rw [h0] at hy
                cases hy
                rw [H1.out] at hg3
                cases hg3)).trans ((ka.block D (lt_of_heap H1.out) (fun h => h)).trans H1.out)
            have H2 := hid H2
            obtain ⟨a1, n1, hv1⟩ := o1.form
            rw [List.length_take, dgB_len, Nat.min_eq_left (by omega)] at hv1
            subst hv1
            have O2 := hid o1
            have F2 := hid F2
            clear ck o1 f1 kk1 hown hsrc ka htl O1 F1 R1 K1 H1 TS BV w8
            gi_wp2_with (fail)
            go_roundw
            case rel => exact ⟨m + 1, a1, n1, by omega, by go_num, rfl, O2.out, F2.out, R2.out, K2.out, H2.out⟩
            case measure => simp [intOf]; omega
          · obtain rfl : m = 8 := by omega
            have hml' : ¬ (((8 : Nat) : Int) < 8) := by omega
            clear hml hm
            gi_wp2_with (fail)
            go_roundw
            case rel => exact ⟨k + 1, b, c2, by omega, by go_num, rfl, O1.out, F1.out, R1.out, K1.out, H1.out⟩
            case measure => simp [intOf]; omega
      · obtain rfl : k = 4 := by omega
        have CV := bytes_conv O1.out.reads
        have DV : Hid (bstr ((dgB u).take (8 * 4)) = bstr (dgt l)) := hid (by rw [DA.out, List.take_of_length_le (by rw [dgB_len]; decide)])
        obtain ⟨V, hV⟩ : ∃ V, bstr ((dgB u).take (8 * 4)) = V := ⟨_, rfl⟩
        rw [hV] at CV DV
        have hlt' : ¬ (((4 : Nat) : Int) < 4) := by omega
        clear hlt hk hV
        gi_wp2_with (fail)
        refine ⟨by simp, .inl ⟨_, _, rfl, run_takeDeferred H1.out, ?_⟩⟩
        exact ⟨_, results_tmp rfl _ _ _, by rw [← DV.out]; rfl, K1.out.grown (grownBy_putObj' _ _ _) (fun y hy => by cases hy; exact .inr (Nat.le_of_lt hDb))⟩
  case stop =>
    rintro D c pre W _ _ h _
    exact h.elim
end Go.Proofs.Ytpijnpapmdnceaa

namespace Go.Proofs.Ytpijnpapmdnceaa
open Go Go.RowKit
theorem dgt_facts : gb (dgt []) 0 = 167#8 ∧ gb (dgt []) 1 = 255#8 ∧ gb (dgt [97#8, 98#8, 99#8]) 0 = 58#8 ∧ gb (dgt [97#8, 98#8, 99#8]) 1 = 152#8 := by decide +kernel
end Go.Proofs.Ytpijnpapmdnceaa

namespace Go.Proofs.Ytpijnpapmdnceaa
open Go Go.RowKit

def bya (l : List B8) : ByteArray := ⟨(l.map UInt8.ofBitVec).toArray⟩
theorem bstr_eq (l : List B8) : bstr l = .string (bya l) := rfl
theorem bya_size (l : List B8) : (bya l).size = l.length := by
  show ((l.map UInt8.ofBitVec).toArray).size = _
  simp
theorem bya_get (l : List B8) (i : Nat) (h : i < (bya l).size) : ((bya l)[i]'h).toNat = (gb l i).toNat := by
  have h2 : i < l.length := by rwa [bya_size] at h
  rw [gb_get l i h2]
  show (((l.map UInt8.ofBitVec).toArray)[i]'(by simpa using h2)).toNat = _
  simp
theorem bya_list (l : List B8) : (bya l).toList = l.map UInt8.ofBitVec := ByteArray.toList_mk _
theorem bya_beq (a b : List B8) : ((bya a).toList == (bya b).toList) = decide (a = b) := by
  rw [bya_list, bya_list, Bool.eq_iff_iff]
  simp only [beq_iff_eq, decide_eq_true_eq]
  exact ⟨fun h => (List.map_inj_right (fun x y e => by simpa using e)).1 h, fun h => by rw [h]⟩
theorem dgt_ne : dgt [] ≠ dgt [97#8, 98#8, 99#8] := fun h => by
  have h1 := dgt_facts.1
  rw [h, dgt_facts.2.2.1] at h1
  exact absurd h1 (by decide)

theorem readY_nil (w : World) (a : Option Addr) (c : Nat) : ReadY w (.slice a 0 c) [] := .inl ⟨a, c, rfl, rfl⟩

theorem run_mark (P : Program) (w : World) (C : Array Value) (e : TypeId) : (markStringish ⟨w.heap.size, 0, none⟩).run P (w.alloc (.cells C e)) = .ok () (w.alloc (.cells C e (C.size, C.size + 1))) := by
  have hsh : (w.alloc (.cells C e)).shape? w.heap.size = some (e, C.size) := by
    have : (w.alloc (.cells C e)).heap[w.heap.size]? = some (.cells C e) := by
      show (w.heap.push (.cells C e))[w.heap.size]? = _
      simp
    unfold World.shape?
    rw [this]
  have hfr : ∀ (n : Nat), (w.alloc (.cells C e)).freeze ⟨w.heap.size, n, none⟩ 1 = w.alloc (.cells C e (n, n + 1)) := fun n => by
    have hm : ∀ (a : Array Obj) (x : Obj) (f : Obj → Obj), (a.push x).modify a.size f = a.push (f x) := by
      intro a x f
      apply Array.ext
      · simp
      · intro i h1 h2
        simp only [Array.getElem_modify, Array.getElem_push]
        by_cases h : a.size = i
        · subst h
          simp
        · have hi : i < a.size := by simp at h1; omega
          simp [h, hi]
    unfold World.freeze
    rw [if_neg (by decide)]
    show ({ w.alloc (.cells C e) with heap := (w.heap.push (.cells C e)).modify w.heap.size _ } : World) = _
    rw [hm]
    rfl
  simp [markStringish, hsh]
  exact hfr _
theorem conv_bytes_bytes (w : World) (C : Array Value) (n c : Nat) : (convert 22 22 (.slice (some ⟨w.heap.size, 0, none⟩) n c)).run Try.prog (w.alloc (.cells C 5)) = .ok (.slice (some ⟨w.heap.size, 0, none⟩) n c) (w.alloc (.cells C 5 (C.size, C.size + 1))) := by
  simp [convert, run_underlying Try.underlying22, run_underlying Try.underlying5, run_mark]

set_option maxRecDepth 10000 in
set_option maxHeartbeats 1000000 in
theorem dawake_any (w : World) :
    Calls Try.prog 12 #[] w fun e w' => e = .returned (.bool true) ∧ Keep (fun _ => False) w w' := by
  obtain ⟨SA, SB, EA, EB, sA, sB, NE, iA0, iA1, iB0, iB1⟩ : ∃ SA SB : ByteArray, bstr (dgt []) = .string SA ∧ bstr (dgt [97#8, 98#8, 99#8]) = .string SB ∧ SA.size = 32 ∧ SB.size = 32 ∧ (SA.toList == SB.toList) = false ∧
      (∀ h, (SA[0]'h).toNat = 167) ∧ (∀ h, (SA[1]'h).toNat = 255) ∧ (∀ h, (SB[0]'h).toNat = 58) ∧ (∀ h, (SB[1]'h).toNat = 152) :=
    ⟨bya (dgt []), bya (dgt [97#8, 98#8, 99#8]), rfl, rfl, by rw [bya_size, dgt_len], by rw [bya_size, dgt_len], by rw [bya_beq]; exact decide_eq_false dgt_ne,
      fun h => by rw [bya_get, dgt_facts.1]; rfl, fun h => by rw [bya_get, dgt_facts.2.1]; rfl, fun h => by rw [bya_get, dgt_facts.2.2.1]; rfl, fun h => by rw [bya_get, dgt_facts.2.2.2]; rfl⟩
  have EA := hid EA
  have EB := hid EB
  go_enter Try.func12, Try.ntmps12
  go_wp2_with fail
  refine (of_any (readY_nil w _ _) (by decide)).mono ?_
  rintro _ w1 ⟨rfl, k1⟩
  rw [EA.out]
  have rd : ReadY (w1.alloc (.cells #[.int .u8 97, .int .u8 98, .int .u8 99] 5 (3, 4))) (.slice (some ⟨w1.heap.size, 0, none⟩) 3 3) [97#8, 98#8, 99#8] := by
    refine .inr ⟨w1.heap.size, 0, 3, rfl, by rw [World.size_alloc]; exact Nat.lt_succ_self _, by simp [maxLen], fun i hi => ?_⟩
    rw [Nat.zero_add, World.cell?_alloc_mark]
    match i, hi with
    | 0, _ => rfl
    | 1, _ => rfl
    | 2, _ => rfl
    | n + 3, h => exact absurd h (by simp)
  have K1 := hid (k1.alloc (.cells #[.int .u8 97, .int .u8 98, .int .u8 99] 5 (3, 4)))
  have cv := conv_bytes_bytes w1 #[.int .u8 97, .int .u8 98, .int .u8 99] 3 3
  have rd := hid rd
  clear k1
  go_wp2_with fail
  refine (of_any rd.out (by decide)).mono ?_
  rintro _ w2 ⟨rfl, k2⟩
  rw [EB.out]
  have K2 := hid (K1.out.trans k2)
  clear k2 rd K1
  go_wp2_with fail
  refine (rof_any (readY_nil _ _ _) (by decide)).mono ?_
  rintro _ w3 ⟨rfl, k3⟩
  rw [EA.out]
  have K3 := hid (K2.out.trans k3)
  clear k3 K2
  go_wp2_with fail
  go_ret
  exact ⟨rfl, K3.out⟩
end Go.Proofs.Ytpijnpapmdnceaa

namespace Go.Proofs.Ytpijnpapmdnceaa
open Go Go.ChangeShapes Go.WideShapes Go.Deep Go.RowKit

section
variable {H : Type} {enc : TypeId × Value → H} {P : Program} {w : World} {base : Nat} {spare : Nat → Bool} {held : Bool}
theorem arg_cap {t e : TypeId} {v : Value} {d : DataW H} {ps : List MemPlace} (ht : P.underlying t = some (.slice e)) (hv : ∃ a l c, v = .slice a l c) (h : DataW.Trod enc P w base spare held t v d ps) : ∃ a l c, v = .slice a l c ∧ l ≤ c ∧ c ≤ maxLen := by
  obtain ⟨a0, l0, c0, rfl⟩ := hv
  obtain ⟨fuel, h⟩ := h
  rcases open_slice ht h with ⟨h0, _⟩ | ⟨a, len, cap, m, n, D, Pl, hcs, hb, hl, hm, _⟩
  · simp [Value.cells] at h0
    obtain ⟨rfl, rfl, rfl⟩ := h0
    exact ⟨_, _, _, rfl, Nat.le_refl _, Nat.zero_le _⟩
  · simp [Value.cells] at hcs
    obtain ⟨rfl, rfl, rfl⟩ := hcs
    exact ⟨_, _, _, rfl, hl, hm⟩
end

/-- A list of bytes that can be read; its room is known. -/
def ReadC (w : World) (v : Value) (l : List B8) : Prop := ReadY w v l ∧ ∃ a c, v = .slice a l.length c ∧ l.length ≤ c ∧ c ≤ maxLen

theorem bytes_of {w : World} {v : Value} {n : Nat} {f : Nat → Nat → Int} (h : ArgRows w v [.u8] n f) (hc : ∃ a l c, v = .slice a l c ∧ l ≤ c ∧ c ≤ maxLen) : ∃ s, ReadC w v s := by
  obtain ⟨hm, ⟨rfl, a, c, rfl⟩ | ⟨g, off, c, rfl, hg, hx⟩⟩ := h
  · obtain ⟨_, _, _, h1, h2, h3⟩ := hc
    simp only [Value.slice.injEq] at h1
    obtain ⟨rfl, rfl, rfl⟩ := h1
    exact ⟨[], readY_nil _ _ _, a, c, rfl, h2, h3⟩
  · obtain ⟨_, _, _, h1, h2, h3⟩ := hc
    simp only [Value.slice.injEq] at h1
    obtain ⟨rfl, rfl, rfl⟩ := h1
    have hl : ((List.range n).map fun i => BitVec.ofInt 8 (f i 0)).length = n := by simp
    refine ⟨(List.range n).map fun i => BitVec.ofInt 8 (f i 0), .inr ⟨g, off, c, by rw [hl], hg, by rw [hl]; exact hm, fun i hi => ?_⟩, _, c, by rw [hl], by rw [hl]; exact h2, h3⟩
    rw [hl] at hi
    obtain ⟨h4, h5⟩ := hx i hi 0 .u8 rfl
    rw [gb_get _ _ (by rw [hl]; exact hi)]
    simp only [List.length_cons, List.length_nil, Nat.zero_add, Nat.mul_one, Nat.add_zero] at h4
    rw [h4]
    simp only [List.getElem_map, List.getElem_range, BitVec.toNat_ofInt]
    have h6 : 0 ≤ f i 0 ∧ f i 0 ≤ 255 := by
      have := h5
      have e1 : IntKind.u8.min = 0 := rfl
      have e2 : IntKind.u8.max = 255 := rfl
      simp [Lit.wf, e1, e2] at this
      omega
    congr 2
    omega

theorem readC_take {w : World} {a : Option Addr} {n c : Nat} {l : List B8} (h : ReadC w (.slice a n c) l) (k : Nat) (hk : k < n) : ReadC w (.slice a k c) (l.take k) := by
  obtain ⟨hr, _, _, h1, h2, h3⟩ := h
  simp only [Value.slice.injEq] at h1
  obtain ⟨rfl, rfl, rfl⟩ := h1
  have hl : (l.take k).length = k := by rw [List.length_take]; omega
  refine ⟨?_, a, c, by rw [hl], by rw [hl]; omega, h3⟩
  obtain ⟨a', c', hv, rfl⟩ | ⟨g, off, c', hv, hg, hm, hc⟩ := hr
  · simp at hk
  · simp only [Value.slice.injEq] at hv
    obtain ⟨rfl, -, rfl⟩ := hv
    refine .inr ⟨g, off, c, by rw [hl], hg, by rw [hl]; omega, fun i hi => ?_⟩
    rw [hl] at hi
    rw [hc i (by omega), gb_get l i (by omega), gb_get _ i (by rw [hl]; exact hi), List.getElem_take]

set_option maxHeartbeats 400000 in
theorem short_any {w : World} {v : Value} {l : List B8} (h : ReadC w v l) :
    Calls Try.prog 14 #[v] w fun e w' => ∃ v', e = .returned v' ∧ ReadC w v' (l.take 700) ∧ w = w' := by
  obtain ⟨_, a, c, rfl, h2, h3⟩ := id h
  by_cases hl : l.length > 700
  · have ht := hid (readC_take h 700 hl)
    have hl' : (l.length : Int) > 700 := by omega
    have hc : (700 : Int) ≤ (c : Int) := by omega
    clear h
    go_enter Try.func14, Try.ntmps14
    go_wp2
    go_ret
    exact ⟨_, rfl, ht.out, rfl⟩
  · have ht := hid h
    have e : l.take 700 = l := List.take_of_length_le (by omega)
    have he := hid e
    have hl' : ¬ (l.length : Int) > 700 := by omega
    clear h e
    go_enter Try.func14, Try.ntmps14
    go_wp2
    go_ret
    exact ⟨_, rfl, by rw [he.out]; exact ht.out, rfl⟩

theorem bytes_beq (a : ByteArray) : (a.toList == a.toList) = true := beq_self_eq_true _

set_option maxRecDepth 10000 in
set_option maxHeartbeats 1000000 in
theorem walk_DigOf (w : World) (v : Value) (l : List B8) (h : ReadC w v l) :
    Calls Try.prog 3 #[v] w fun e w' => e = .returned (.bool true) ∧ Below w.heap.size w w' := by
  have hl : (l.take 700).length ≤ 1000 := by rw [List.length_take]; omega
  obtain ⟨L, hL⟩ : ∃ L, l.take 700 = L := ⟨_, rfl⟩
  have HL := hid hL
  rw [hL] at hl
  obtain ⟨S, hS⟩ : ∃ s, bstr (dgt L) = .string s := ⟨_, rfl⟩
  have HS := hid hS
  have H := hid h
  clear h hS hL
  obtain ⟨_, a, c, rfl, _, _⟩ := H.out
  go_enter Try.func3, Try.ntmps3
  go_wp2_with fail
  refine (dawake_any w).mono ?_
  rintro _ w1 ⟨rfl, k1⟩
  have h1 : ReadC w1 (.slice a l.length c) l := ⟨H.out.1.keep k1 (fun _ _ h => h), H.out.2⟩
  have h1 := hid h1
  have K1 := hid k1
  clear k1
  go_wp2_with fail
  refine (short_any h1.out).mono ?_
  rintro _ _ ⟨v2, rfl, r2, rfl⟩
  rw [HL.out] at r2
  obtain ⟨_, a2, c2, hv2, _⟩ := id r2
  subst hv2
  have r2 := hid r2
  go_wp2_with fail
  refine (of_any r2.out.1 hl).mono ?_
  rintro _ w3 ⟨rfl, k3⟩
  rw [HS.out]
  have h3 : ReadC w3 (.slice a l.length c) l := ⟨h1.out.1.keep k3 (fun _ _ h => h), H.out.2⟩
  have h3 := hid h3
  have K3 := hid (K1.out.trans k3)
  clear k3
  go_wp2_with fail
  refine (short_any h3.out).mono ?_
  rintro _ _ ⟨v4, rfl, r4, rfl⟩
  rw [HL.out] at r4
  obtain ⟨_, a4, c4, hv4, _⟩ := id r4
  subst hv4
  have r4 := hid r4
  go_wp2_with fail
  refine (rof_any r4.out.1 hl).mono ?_
  rintro _ w5 ⟨rfl, k5⟩
  rw [HS.out]
  have K5 := hid (K3.out.trans k5)
  have bb := bytes_beq S
  clear k5
  go_wp2_with fail
  go_ret
  exact ⟨by rfl, K5.out.below (fun _ h => h.elim) (Nat.le_refl _)⟩
end Go.Proofs.Ytpijnpapmdnceaa

namespace Go.Proofs.Ytpijnpapmdnceaa
open Go Go.RowKit

theorem add_xor (a c : L64) (n : Nat) (ha : ∀ i, n ≤ i → a.getLsbD i = false) (hc : ∀ i, i < n → c.getLsbD i = false) : a + c = a ^^^ c := by
  rw [← or_xor a c n ha hc]
  apply BitVec.add_eq_or_of_and_eq_zero
  apply BitVec.eq_of_getLsbD_eq
  intro i _
  rw [BitVec.getLsbD_and, BitVec.getLsbD_zero]
  by_cases h : i < n
  · rw [hc i h]; simp
  · rw [ha i (by omega)]; simp
theorem gl_there (s : List L64) (i j : Nat) (x : L64) (h : i ≠ j) : gl (s.set i x) j = gl s j := by
  unfold gl
  rw [List.getD_eq_getElem?_getD, List.getD_eq_getElem?_getD, List.getElem?_set_ne h]
theorem lanesK_far (f : Nat → B8) (b : Nat) (s : List L64) (j : Nat) : ∀ k, k ≤ j → gl (lanesK f b s k) j = gl s j
  | 0, _ => rfl
  | k + 1, h => by rw [lanesK_succ, gl_there _ _ _ _ (by omega), lanesK_far f b s j k (by omega)]
theorem gl_z25 (i : Nat) : gl z25 i = 0#64 := by
  unfold gl z25
  rw [List.getD_eq_getElem?_getD]
  by_cases h : i < 25
  · rw [List.getElem?_replicate, if_pos h]; rfl
  · rw [List.getElem?_replicate, if_neg h]; rfl
/-- The lane in which byte k comes: what is there. -/
theorem here_num (f : Nat → B8) (k : Nat) (hk : k < 200) : gl (bytesK f 0 z25 k) (k / 8) = numX f (8 * (k / 8)) (k % 8) := by
  have e : 8 * (k / 8) + k % 8 = k := by omega
  have hl : k / 8 < z25.length := by show k / 8 < 25; omega
  have h := bytes_lane f 0 z25 (k / 8) hl (bytes_lanes f 0 z25 (k / 8) (Nat.le_of_lt hl)) (k % 8) (by omega)
  rw [e] at h
  rw [h, gl_here _ _ _ (by rw [lanesK_len]; exact hl), lanesK_far f 0 z25 (k / 8) (k / 8) (Nat.le_refl _), gl_z25, BitVec.zero_xor, Nat.zero_add]
/-- A byte that is added. -/
theorem add_byte (f : Nat → B8) (k : Nat) (hk : k < 200) (x : B8) : gl (bytesK f 0 z25 k) (k / 8) + inl8 x (k % 8) = gl (bytesK f 0 z25 k) (k / 8) ^^^ inl8 x (k % 8) := by
  rw [here_num f k hk]
  exact add_xor _ _ (8 * (k % 8)) (numX_high f _ _) (inl8_low x _)
theorem byte_next (f : Nat → B8) (k : Nat) (hk : k < 200) : (bytesK f 0 z25 k).set (k / 8) (gl (bytesK f 0 z25 k) (k / 8) + inl8 (f k) (k % 8)) = bytesK f 0 z25 (k + 1) := by
  rw [add_byte f k hk, bytesK_succ, Nat.zero_add]
theorem inl8_zero (k : Nat) : inl8 0#8 k = 0#64 := by unfold inl8; simp
theorem byte_none (f : Nat → B8) (k : Nat) (h : f k = 0#8) : bytesK f 0 z25 (k + 1) = bytesK f 0 z25 k := by
  rw [bytesK_succ, Nat.zero_add, h, inl8_zero, BitVec.xor_zero, set_gl]
theorem byte_nones (f : Nat → B8) (k : Nat) : ∀ m, (∀ i, i < m → f (k + i) = 0#8) → bytesK f 0 z25 (k + m) = bytesK f 0 z25 k
  | 0, _ => rfl
  | m + 1, h => by rw [← Nat.add_assoc, byte_none f (k + m) (h m (by omega)), byte_nones f k m (fun i hi => h i (by omega))]
/-- Of less than a block: the six, and the last bit. -/
theorem one_block (l : List B8) (h : l.length ≤ 134) : (bytesK (padF l) 0 z25 (l.length + 1)).set 16 (gl (bytesK (padF l) 0 z25 (l.length + 1)) 16 ^^^ 9223372036854775808#64) = bytesK (padF l) 0 z25 136 := by
  have ha : allN l.length = 136 := by unfold allN; omega
  have h1 : bytesK (padF l) 0 z25 135 = bytesK (padF l) 0 z25 (l.length + 1) := by
    have := byte_nones (padF l) (l.length + 1) (134 - l.length) (fun i hi => by
      unfold padF patb
      rw [if_neg (by omega), if_neg (by omega), ha, if_neg (by omega)]
      rfl)
    rwa [show l.length + 1 + (134 - l.length) = 135 by omega] at this
  have h2 := bytesK_succ (padF l) 0 z25 135
  rw [Nat.zero_add, h1] at h2
  have h3 : padF l 135 = 128#8 := by
    unfold padF patb
    rw [if_neg (by omega), if_neg (by omega), ha, if_pos (by omega)]
    rfl
  rw [h2, h3]
  rfl
theorem dgt_one (l : List B8) (h : l.length ≤ 134) : dgt l = dgB (perm (bytesK (padF l) 0 z25 136)) := by
  have ha : allN l.length / 136 = 1 := by unfold allN; omega
  have h1 := bytes_lanes (padF l) 0 z25 17 (by decide)
  unfold dgt
  rw [ha, dgS, dgS, Nat.mul_zero, ← h1]
theorem padF_in (l : List B8) (k : Nat) (h : k < l.length) : padF l k = gb l k := by unfold padF patb; rw [if_pos h]
theorem padF_six (l : List B8) (h : l.length ≤ 134) : padF l l.length = 6#8 := by
  have ha : allN l.length = 136 := by unfold allN; omega
  unfold padF patb
  rw [if_neg (by omega), if_pos rfl, ha, if_neg (by omega)]
  rfl
theorem add_val (a b : L64) : IntKind.u64.wrap ((a.toNat : Int) + (b.toNat : Int)) = ((a + b).toNat : Int) := by
  rw [IntKind.wrap_u64, BitVec.toNat_add]; omega
theorem dgB_gb (s : List L64) (i : Nat) (h : i < 32) : gb (dgB s) i = byt s i := by
  rw [gb_get _ _ (by simp [dgB]; exact h)]
  simp [dgB]
end Go.Proofs.Ytpijnpapmdnceaa

namespace Go.Proofs.Ytpijnpapmdnceaa
open Go Go.RowKit

set_option maxRecDepth 10000 in
set_option maxHeartbeats 2000000 in
theorem walk_DigOne (w : World) (v : Value) (l : List B8) (h : ReadC w v l) :
    Calls Try.prog 4 #[v] w fun e w' => e = .returned (.bool true) ∧ Below w.heap.size w w' := by
  obtain ⟨_, a, c, rfl, hc1, hc2⟩ := id h
  have r0 : RowL (w.alloc (.cells (stv z25).toArray 28)) w.heap.size 28 z25 := heap_alloc_new w _
  have k0 : Keep (fun _ => False) w (w.alloc (.cells (stv z25).toArray 28)) := (Keep.refl _ _).alloc _
  obtain ⟨L, m, H, HL, hm, hgt, SL⟩ : ∃ L m, Hid (ReadY w (.slice a m c) L) ∧ Hid (L.length = m) ∧ m ≤ 134 ∧ ((l.length : Int) > 134 ∨ ¬ (l.length : Int) > 134 ∧ m = l.length) ∧ ∀ W, (l.length : Int) > 134 → (Instr.slice 22 (.slice a l.length c) none (some (.int .i64 134)) none).run Try.prog W = .ok (.slice a m c) W := by
    by_cases hl : l.length > 134
    · have ht := readC_take h 134 hl
      refine ⟨l.take 134, 134, hid ht.1, hid (by rw [List.length_take]; omega), Nat.le_refl _, .inl (by omega), fun W _ => ?_⟩
      have hc : (134 : Int) ≤ (c : Int) := by omega
      go_simp
    · exact ⟨l, l.length, hid h.1, hid rfl, by omega, .inr ⟨by omega, rfl⟩, fun W hh => absurd hh (by omega)⟩
  have r0 := hid r0
  have k0 := hid k0
  have hgt2 : ((l.length : Int) > 134 ∧ ∀ W, (Instr.slice 22 (.slice a l.length c) none (some (.int .i64 134)) none).run Try.prog W = .ok (.slice a m c) W) ∨ ¬ (l.length : Int) > 134 ∧ m = l.length :=
    hgt.elim (fun h => .inl ⟨h, fun W => SL W h⟩) .inr
  clear h SL hgt hc1 hc2
  rcases hgt2 with ⟨hgt, SL⟩ | ⟨hgt, hml⟩
  case' inr =>
    rw [← hml] at hgt ⊢
    clear hml
  all_goals
    go_enter Try.func4, Try.ntmps4
    go_wp2_with (first | (with_reducible refine wpList_bd built37 rfl rfl ?_) | ((with_reducible refine wpList_st (.tmp 3) (.tmp 13) rfl rfl _ rfl z25 rfl rfl z25 rfl ?_ ?_); exact r0.out))
    try clear SL
    clear hgt
    have R0 := hid (r0.out.row (s' := z25))
    have K0 := hid (k0.out.setRow (g := w.heap.size) (Nat.le_refl _) (stv z25).toArray)
    go_loopw [4] (fun i wr => ∃ k : Nat, k ≤ m ∧ i = .int .i64 k ∧ RowL wr w.heap.size 28 (bytesK (padF L) 0 z25 k) ∧ Keep (fun _ => False) w wr) (fun i _ => m - (intOf i).toNat)
    case atStart => exact ⟨0, Nat.zero_le _, rfl, R0.out, K0.out⟩
    case round =>
      obtain ⟨k, hk, rfl, hR, hK⟩ := hrel
      clear R0 K0
      have R := hid hR
      have KK := hid hK
      have BL := hid (show (bytesK (padF L) 0 z25 k).length = 25 from bytesK_len _ _ _ _)
      clear hR hK
      by_cases hlt : k < m
      · have hlt' : (k : Int) < (m : Int) := by omega
        obtain ⟨g, off, c1, hv1, hg, hmx, hc⟩ := (H.out.keep KK.out (fun _ _ h => h)).at HL.out (by omega)
        have HV := hid hv1
        simp only [Value.slice.injEq] at hv1
        obtain ⟨rfl, -, rfl⟩ := hv1
        have kc := hc k hlt
        have PN := hid (byte_next (padF L) k (by omega))
        rw [padF_in L k (by rw [HL.out]; exact hlt)] at PN
        obtain ⟨u, hu⟩ : ∃ u, bytesK (padF L) 0 z25 k = u := ⟨_, rfl⟩
        rw [hu] at R BL PN
        obtain ⟨q, hq⟩ : ∃ q, k / 8 = q := ⟨_, rfl⟩
        obtain ⟨r, hr⟩ : ∃ r, k % 8 = r := ⟨_, rfl⟩
        rw [hq, hr] at PN
        have q17 : q < 17 := by omega
        have r8 : r < 8 := by omega
        have hqd : (k : Int).tdiv 8 = (q : Int) := by rw [Int.tdiv_eq_ediv_of_nonneg (by omega), ← hq]; rfl
        have hrd : (k : Int).tmod 8 = (r : Int) := by rw [Int.tmod_eq_emod_of_nonneg (by omega), ← hr]; rfl
        have hqe : (k : Int) / 8 = (q : Int) := by omega
        have hre : (k : Int) % 8 = (r : Int) := by omega
        have hqi : (q : Int) < 25 := by omega
        have wq : IntKind.i64.wrap (q : Int) = (q : Int) := IntWalk.i64_in _ ⟨by omega, by omega⟩
        have wr8 : IntKind.i64.wrap (8 * (r : Int)) = ((8 * r : Nat) : Int) := by rw [IntWalk.i64_in _ ⟨by omega, by omega⟩]; omega
        have ck := R.out.cell q (by rw [BL.out]; omega)
        have fk := R.out.fro q
        obtain ⟨x, hx⟩ : ∃ x, gb L k = x := ⟨_, rfl⟩
        obtain ⟨X, hX⟩ : ∃ X, gl u q = X := ⟨_, rfl⟩
        rw [hx] at kc PN
        rw [hX] at ck PN
        have b8 := b8_lt x
        have IV := hid (inl8_val x r)
        have EQ : Hid (IntKind.u64.wrap ((X.toNat : Int) + IntKind.u64.wrap (IntKind.u64.wrap (x.toNat : Int) * 2 ^ min (IntKind.u64.wrap (8 * (r : Int))).toNat 64)) = ((X + inl8 x r).toNat : Int)) := hid (by
          have e1 : IntKind.u64.wrap (x.toNat : Int) = (x.toNat : Int) := by rw [IntKind.wrap_u64]; omega
          have e2 : IntKind.u64.wrap (8 * (r : Int)) = ((8 * r : Nat) : Int) := by rw [IntKind.wrap_u64]; omega
          rw [e1, e2, Int.toNat_natCast, Nat.min_eq_left (by omega), IV.out, add_val])
        unfold maxLen at hmx
        clear hu hq hr hx hX hc
        go_wp2_with fail
        refine wp_region_text [0,0,0,0,0,0,0,0,0,0,0,0,0,0,0,0,3] (fun W => W.cell? ⟨w.heap.size, q, none⟩ = some (.int .u64 (X.toNat : Int)) ∧ W.cell? ⟨g, off + k, none⟩ = some (.int .u8 (x.toNat : Int))) (by kernel_rfl) (by kernel_rfl) ⟨ck, kc⟩ ?_
        repeat (first
          | (refine' wpT_calm (v := _) (by rfl) (fun W hW => ?_) ?_; rotate_left
             · ((try dsimp only at hW); go_simp; first | done | rfl)
             simp only [Act.put, List.setIfInBounds_toArray, List.set_cons_zero, List.set_cons_succ])
          | (refine' wpT_reads (v := _) (by rfl) ?_ ?_; rotate_left
             · (go_simp; first | done | rfl)
             simp only [Act.put, List.setIfInBounds_toArray, List.set_cons_zero, List.set_cons_succ])
          | (refine wpT_skip (by rfl) rfl ?_; simp only [Act.put, List.setIfInBounds_toArray, List.set_cons_zero, List.set_cons_succ])
          | (refine wpT_does (by rfl) (fun K hK => ?_); go_simp; refine hK _ _ ?_ ?_
             · (trivial)
             clear hK K; try simp only [Act.put, List.setIfInBounds_toArray, List.set_cons_zero, List.set_cons_succ])
          | (refine wpT_last (by rfl) (fun K hK => ?_); go_simp; refine hK _ _ ?_; clear hK K)
          | (refine wpT_nil ?_))
        rw [EQ.out]
        have R1 := hid ((R.out.set q (X + inl8 x r)).keep ((Keep.refl (fun _ => False) _).drew) (fun h => h))
        have K1 := hid ((KK.out.setCell (p := ⟨w.heap.size, q, none⟩) (.inr (Nat.le_refl _)) (.int .u64 ((X + inl8 x r).toNat : Int))).drew)
        rw [PN.out] at R1
        generalize IntKind.u64.wrap (IntKind.u64.wrap (x.toNat : Int) * 2 ^ min (IntKind.u64.wrap (8 * (r : Int))).toNat 64) = J1
        generalize IntKind.u64.wrap (8 * (r : Int)) = J2
        generalize IntKind.u64.wrap (x.toNat : Int) = J3
        clear kc hqd hrd hqe hre wq wr8 ck fk EQ
        go_wp2_with fail
        go_roundw
        case rel => exact ⟨k + 1, by omega, by go_num, R1.out, K1.out⟩
        case measure => simp [intOf]; omega
      · obtain rfl : k = m := by omega
        have hlt' : ¬ (k : Int) < (k : Int) := by omega
        have PN := hid (byte_next (padF L) k (by omega))
        have p6 := padF_six L (by rw [HL.out]; exact hm)
        have OB := one_block L (by rw [HL.out]; exact hm)
        have DO := dgt_one L (by rw [HL.out]; exact hm)
        rw [HL.out] at p6 OB
        rw [p6] at PN
        obtain ⟨u, hu⟩ : ∃ u, bytesK (padF L) 0 z25 k = u := ⟨_, rfl⟩
        rw [hu] at R BL PN
        have BL1 : (bytesK (padF L) 0 z25 (k + 1)).length = 25 := bytesK_len _ _ _ _
        have BL2 : (bytesK (padF L) 0 z25 136).length = 25 := bytesK_len _ _ _ _
        obtain ⟨u1, hu1⟩ : ∃ u, bytesK (padF L) 0 z25 (k + 1) = u := ⟨_, rfl⟩
        rw [hu1] at PN BL1 OB
        obtain ⟨u2, hu2⟩ : ∃ u, bytesK (padF L) 0 z25 136 = u := ⟨_, rfl⟩
        rw [hu2] at OB BL2 DO
        have OB := hid OB
        have DO := hid DO
        have BL1 := hid BL1
        have BL2 := hid BL2
        obtain ⟨q, hq⟩ : ∃ q, k / 8 = q := ⟨_, rfl⟩
        obtain ⟨r, hr⟩ : ∃ r, k % 8 = r := ⟨_, rfl⟩
        rw [hq, hr] at PN
        have q17 : q < 17 := by omega
        have r8 : r < 8 := by omega
        have hqd : (k : Int).tdiv 8 = (q : Int) := by rw [Int.tdiv_eq_ediv_of_nonneg (by omega), ← hq]; rfl
        have hrd : (k : Int).tmod 8 = (r : Int) := by rw [Int.tmod_eq_emod_of_nonneg (by omega), ← hr]; rfl
        have hqe : (k : Int) / 8 = (q : Int) := by omega
        have hre : (k : Int) % 8 = (r : Int) := by omega
        have hqi : (q : Int) < 25 := by omega
        have wq : IntKind.i64.wrap (q : Int) = (q : Int) := IntWalk.i64_in _ ⟨by omega, by omega⟩
        have wr8 : IntKind.i64.wrap (8 * (r : Int)) = ((8 * r : Nat) : Int) := by rw [IntWalk.i64_in _ ⟨by omega, by omega⟩]; omega
        have ck := R.out.cell q (by rw [BL.out]; omega)
        have fk := R.out.fro q
        obtain ⟨X, hX⟩ : ∃ X, gl u q = X := ⟨_, rfl⟩
        rw [hX] at ck PN
        have IV := hid (inl8_val 6#8 r)
        have E1 : IntKind.u64.wrap (6 * 2 ^ (8 * r)) = ((inl8 6#8 r).toNat : Int) := IV.out
        obtain ⟨N, hN⟩ : ∃ N, inl8 6#8 r = N := ⟨_, rfl⟩
        rw [hN] at E1 PN
        have E2 := add_val X N
        obtain ⟨V, hV⟩ : ∃ V, X + N = V := ⟨_, rfl⟩
        rw [hV] at E2 PN
        have R1' := R.out.set q V
        rw [PN.out] at R1'
        have c16 := R1'.cell 16 (by rw [BL1.out]; decide)
        have f16 := R1'.fro 16
        have R2' := R1'.set 16 (gl u1 16 ^^^ 9223372036854775808#64)
        rw [OB.out] at R2'
        have K2 := hid ((KK.out.setCell (p := ⟨w.heap.size, q, none⟩) (.inr (Nat.le_refl _)) (.int .u64 (V.toNat : Int))).setCell (p := ⟨w.heap.size, 16, none⟩) (.inr (Nat.le_refl _)) (.int .u64 ((gl u1 16 ^^^ 9223372036854775808#64).toNat : Int)))
        obtain ⟨Y, hY⟩ : ∃ Y, gl u1 16 = Y := ⟨_, rfl⟩
        rw [hY] at c16 R2' K2
        have XV : bits .xor .u64 (Y.toNat : Int) 9223372036854775808 = ((Y ^^^ 9223372036854775808#64).toNat : Int) := xor_val Y 9223372036854775808#64
        obtain ⟨Z, hZ⟩ : ∃ Z, Y ^^^ 9223372036854775808#64 = Z := ⟨_, rfl⟩
        rw [hZ] at R2' K2 XV
        have R2 := hid R2'
        have PL := hid (perm_length u2 BL2.out)
        clear hu hu1 hu2 hq hr hX hlt p6 IV hY R1' R2' OB PN R hN hV hZ
        go_wp2_with (with_reducible refine wpList_ld (.tmp 3) rfl rfl _ rfl u2 BL2.out R2.out ?_)
        refine (perm_any u2 BL2.out _).mono ?_
        rintro _ W3 ⟨rfl, k3⟩
        have K3 := hid (K2.out.trans k3)
        have H3 := hid (H.out.keep K3.out (fun _ _ h => h))
        obtain ⟨s, hs⟩ : ∃ s, perm u2 = s := ⟨_, rfl⟩
        rw [hs] at PL DO ⊢
        clear hs k3 K2 R2 c16 f16 XV E1 E2 ck fk hqd hrd hqe hre wq wr8 KK
        obtain ⟨b2, hb2⟩ : ∃ b, W3.heap.size = b := ⟨_, rfl⟩
        have hb : w.heap.size ≤ b2 := by rw [← hb2]; exact K3.out.size
        have r4 : RowL (W3.alloc (.cells (stv z25).toArray 28)) W3.heap.size 28 z25 := heap_alloc_new W3 _
        rw [hb2] at r4
        have k4 := (K3.out.alloc (.cells (stv z25).toArray 28))
        have R4 := hid (r4.row (s' := s))
        have K4 := hid (k4.setRow (g := b2) hb (stv s).toArray)
        have r4 := hid r4
        clear k4 K3
        go_wp2_with ((with_reducible refine wpList_st (.tmp 5) (.tmp 54) rfl rfl _ rfl s PL.out rfl z25 rfl ?_ ?_); exact r4.out)
        clear r4 hb2
        refine (of_any (H.out.keep K4.out (fun _ _ h => h)) (by rw [HL.out]; omega)).mono ?_
        rintro _ W5 ⟨rfl, k5⟩
        rw [DO.out]
        have R5 := hid (R4.out.keep k5 (fun h => h))
        have K5 := hid (K4.out.trans k5)
        obtain ⟨S, hS, hSs, hSi⟩ : ∃ S : ByteArray, bstr (dgB s) = .string S ∧ S.size = 32 ∧ Hid (∀ i h, i < 32 → (S[i]'h).toNat = (byt s i).toNat) :=
          ⟨bya (dgB s), rfl, by rw [bya_size]; simp [dgB], hid (fun i h hi => by rw [bya_get, dgB_gb s i hi])⟩
        rw [hS]
        clear hS k5 R4 K4 DO H3
        go_wp2_with fail
        go_loopw [7] (fun i wr => ∃ k : Nat, k ≤ 32 ∧ i = .int .i64 k ∧ RowL wr b2 28 s ∧ Keep (fun _ => False) w wr) (fun i _ => 32 - (intOf i).toNat)
        case atStart => exact ⟨0, Nat.zero_le _, rfl, R5.out, K5.out⟩
        case round =>
          obtain ⟨j, hj, rfl, hR, hK⟩ := hrel
          have R6 := hid hR
          have K6 := hid hK
          clear R5 K5 hR hK
          by_cases hjl : j < 32
          · have hjl' : (j : Int) < 32 := by omega
            have BV := byt_val (gl s (j / 8)) (8 * (j % 8))
            have SI : ∀ h, (S[j]'h).toNat = (byt s j).toNat := fun h => hSi.out j h hjl
            have BD : Hid (byt s j = (gl s (j / 8) >>> (8 * (j % 8))).setWidth 8) := hid rfl
            obtain ⟨B, hB⟩ : ∃ B, byt s j = B := ⟨_, rfl⟩
            simp only [hB] at SI
            rw [hB] at BD
            obtain ⟨q2, hq⟩ : ∃ q, j / 8 = q := ⟨_, rfl⟩
            obtain ⟨r2, hr⟩ : ∃ r, j % 8 = r := ⟨_, rfl⟩
            rw [hq, hr] at BV BD
            rw [← BD.out] at BV
            have q25 : q2 < 25 := by omega
            have r28 : r2 < 8 := by omega
            have hqe : (j : Int) / 8 = (q2 : Int) := by omega
            have hre : (j : Int) % 8 = (r2 : Int) := by omega
            have hqi : (q2 : Int) < 25 := by omega
            have wq : IntKind.i64.wrap (q2 : Int) = (q2 : Int) := IntWalk.i64_in _ ⟨by omega, by omega⟩
            have wr8 : IntKind.i64.wrap (8 * (r2 : Int)) = ((8 * r2 : Nat) : Int) := by rw [IntWalk.i64_in _ ⟨by omega, by omega⟩]; omega
            have hqd : (j : Int).tdiv 8 = (q2 : Int) := by rw [Int.tdiv_eq_ediv_of_nonneg (by omega), hqe]
            have hrd : (j : Int).tmod 8 = (r2 : Int) := by rw [Int.tmod_eq_emod_of_nonneg (by omega), hre]
            have ck := R6.out.cell q2 (by rw [PL.out]; exact q25)
            obtain ⟨X, hX⟩ : ∃ X, gl s q2 = X := ⟨_, rfl⟩
            rw [hX] at ck BV
            have NEQ : Hid (((B.toNat : Int) != IntKind.u8.wrap ((X.toNat : Int) / 2 ^ min (IntKind.u64.wrap (8 * (r2 : Int))).toNat 64)) = false) := hid (by
              have e2 : IntKind.u64.wrap (8 * (r2 : Int)) = ((8 * r2 : Nat) : Int) := by rw [IntKind.wrap_u64]; omega
              rw [e2, Int.toNat_natCast, Nat.min_eq_left (by omega), IntKind.wrap_u8', BV]
              simp)
            clear hX hq hr hB BD BV
            go_wp2_with fail
            refine wp_region_text [0,0,0,0,0,0,0,0,0,0,0,0,0,0] (fun W => W.cell? ⟨b2, q2, none⟩ = some (.int .u64 (X.toNat : Int))) (by kernel_rfl) (by kernel_rfl) ck ?_
            repeat (first
              | (refine' wpT_calm (v := _) (by rfl) (fun W hW => ?_) ?_; rotate_left
                 · ((try dsimp only at hW); go_simp; first | done | rfl)
                 simp only [Act.put, List.setIfInBounds_toArray, List.set_cons_zero, List.set_cons_succ])
              | (refine' wpT_reads (v := _) (by rfl) ?_ ?_; rotate_left
                 · (go_simp; first | done | rfl)
                 simp only [Act.put, List.setIfInBounds_toArray, List.set_cons_zero, List.set_cons_succ])
              | (refine wpT_skip (by rfl) rfl ?_; simp only [Act.put, List.setIfInBounds_toArray, List.set_cons_zero, List.set_cons_succ])
              | (refine wpT_does (by rfl) (fun K hK => ?_); go_simp; refine hK _ _ ?_ ?_
                 · (trivial)
                 clear hK K; try simp only [Act.put, List.setIfInBounds_toArray, List.set_cons_zero, List.set_cons_succ])
              | (refine wpT_last (by rfl) (fun K hK => ?_); go_simp; refine hK _ _ ?_; clear hK K)
              | (refine wpT_nil ?_))
            rw [NEQ.out]
            have K7 := hid K6.out.drew
            have R7 := hid (R6.out.keep ((Keep.refl (fun _ => False) _).drew) (fun h => h))
            generalize IntKind.u8.wrap ((X.toNat : Int) / 2 ^ min (IntKind.u64.wrap (8 * (r2 : Int))).toNat 64) = J1
            generalize (X.toNat : Int) / 2 ^ min (IntKind.u64.wrap (8 * (r2 : Int))).toNat 64 = J2
            generalize IntKind.u64.wrap (8 * (r2 : Int)) = J3
            clear ck wr8 wq hqe hre hqd hrd SI R6 K6 NEQ
            go_wp2_with fail
            go_roundw
            case rel => exact ⟨j + 1, by omega, by go_num, R7.out, K7.out⟩
            case measure => simp [intOf]; omega
          · obtain rfl : j = 32 := by omega
            have hjl' : ¬ ((32 : Nat) : Int) < 32 := by omega
            clear hj hjl
            go_wp2_with fail
            refine (dawake_any _).mono ?_
            rintro _ W7 ⟨rfl, k7⟩
            have K7 := hid (K6.out.trans k7)
            clear k7 K6
            go_wp2_with fail
            go_ret
            exact ⟨rfl, K7.out.below (fun _ h => h.elim) (Nat.le_refl _)⟩
end Go.Proofs.Ytpijnpapmdnceaa

namespace Go.Proofs.Ytpijnpapmdnceaa
open Go Go.RowKit

/-- A block of T bytes: first the list L (of n), then from n on up to k the byte x. -/
def Room (w : World) (b n T : Nat) (L : List B8) (x : B8) (k : Nat) : Prop :=
  ∃ cur, w.heap[b]? = some (.cells cur 5 (0, 0)) ∧ cur.size = T ∧ cur.toList.take n = flat8 L ∧ ∀ i, n ≤ i → i < k → cur[i]? = some (.int .u8 (x.toNat : Int))

section
variable {w w' : World} {b n T k : Nat} {L : List B8} {x : B8}
theorem Room.lt (h : Room w b n T L x k) : b < w.heap.size := by obtain ⟨_, h1, _⟩ := h; exact lt_of_heap h1
theorem Room.keep {F : Nat → Prop} (h : Room w b n T L x k) (hK : Keep F w w') (hF : ¬ F b) : Room w' b n T L x k := by
  have hlt := h.lt
  obtain ⟨cur, h1, h2⟩ := h
  exact ⟨cur, (hK.block b hlt hF).trans h1, h2⟩
theorem Room.read (h : Room w b n T L x k) (hL : L.length = n) (hn : n ≤ T) (hT : T ≤ maxLen) : ReadY w (.slice (some ⟨b, 0, none⟩) n T) L := by
  obtain ⟨cur, h1, h2, h3, _⟩ := h
  have h : OwnY w (.slice (some ⟨b, 0, none⟩) n T) L := ⟨by rw [flat8_length]; omega, .inr ⟨b, T, cur, by rw [hL], Nat.zero_le _, h1, by rw [hL]; exact hn, hT, by omega, by rw [hL, Nat.mul_one]; exact h3⟩⟩
  exact h.reads
theorem Room.cell (h : Room w b n T L x k) (i : Nat) (hi : i < T) : (∃ u, w.cell? ⟨b, i, none⟩ = some u) ∧ w.frozen? ⟨b, i, none⟩ = false := by
  obtain ⟨cur, h1, h2, _⟩ := h
  refine ⟨⟨cur[i]'(by omega), ?_⟩, frozen_of_row w b i _ _ h1⟩
  rw [cell_of_row w b i cur 5 (0, 0) h1]
  exact Array.getElem?_eq_getElem (by omega)
theorem Room.get (h : Room w b n T L x k) (i : Nat) (h0 : n ≤ i) (hi : i < k) : w.cell? ⟨b, i, none⟩ = some (.int .u8 (x.toNat : Int)) := by
  obtain ⟨cur, h1, _, _, h4⟩ := h
  rw [cell_of_row w b i cur 5 (0, 0) h1]
  exact h4 i h0 hi
theorem Room.set (h : Room w b n T L x k) (hk : n ≤ k) (hT : k < T) : Room (w.setCell ⟨b, k, none⟩ (.int .u8 (x.toNat : Int))) b n T L x (k + 1) := by
  obtain ⟨cur, h1, h2, h3, h4⟩ := h
  refine ⟨_, heap_setCell_same w b k cur 5 (.int .u8 (x.toNat : Int)) h1, by simpa using h2, ?_, fun i h0 hi => ?_⟩
  · rw [Array.toList_setIfInBounds, List.take_set_of_le hk, h3]
  · by_cases e : k = i
    · subst e
      rw [Array.getElem?_setIfInBounds_self_of_lt (by omega)]
    · rw [Array.getElem?_setIfInBounds_ne e]
      exact h4 i h0 (by omega)
end

/-- 'append(make([]byte, 0, T), x...)': it lies in the room that was made. -/
theorem wp_append_fit (w : World) {o : Oper} {a : Act} {K : Act → World → Prop} {Q : Exit → Act → World → Prop} (s y : Operand)
    (ho : o.op = .call { callee := .builtin .append, args := #[s, y], argTypes := #[22, 22] })
    (g n T : Nat) (hs : a.eval s = .slice (some ⟨g, 0, none⟩) 0 T) (hown : OwnY w (.slice (some ⟨g, 0, none⟩) 0 T) []) (a2 : Option Addr) (c2 : Nat) (L : List B8) (hx : a.eval y = .slice a2 n c2) (hr : ReadY w (.slice a2 n c2) L) (hL : L.length = n) (hn : n ≤ T) (x : B8)
    (h : ∀ w', Room w' g n T L x n → Keep (fun k => k = g) w w' → K (a.put o.dst (.slice (some ⟨g, 0, none⟩) n T)) w') : o.wp Try.prog a w K Q := by
  obtain ⟨i0, hi, hz0, hz1, hz2⟩ := info_parts Try.infoY
  have room : ∀ W, OwnY W (.slice (some ⟨g, 0, none⟩) n T) L → Room W g n T L x n := by
    intro W ⟨_, hW⟩
    rcases hW with ⟨h0, _⟩ | ⟨g', cap, cur, hv, _, hg, _, _, hcs, ht⟩
    · cases h0
    · simp only [Value.slice.injEq, Option.some.injEq, Addr.mk.injEq, and_true] at hv
      obtain ⟨rfl, hv2, rfl⟩ := hv
      exact ⟨cur, hg, by omega, by rw [hL, Nat.mul_one] at ht; exact ht, fun i h0 hi => absurd hi (by omega)⟩
  cases a2 with
  | none =>
    have h0 : n = 0 ∧ L = [] := by
      rcases hr with ⟨_, _, hv, h0⟩ | ⟨_, _, _, hv, _⟩
      · exact ⟨by rw [← hL, h0]; rfl, h0⟩
      · simp at hv
    obtain ⟨rfl, rfl⟩ := h0
    have hrun : (Builtin.append_ #[22, 22] o.type #[.slice (some ⟨g, 0, none⟩) 0 T, .slice none 0 c2]).run Try.prog w = .ok (.slice (some ⟨g, 0, none⟩) 0 T) w := by
      simp [Builtin.append_, run_underlying Try.underlying22, sizeOf, typeInfo, hi, Builtin.lenOf, Builtin.firstCells, storeCells]
    unfold Oper.wp execOp
    simp only [ho, resolve, invoke, builtin, Sem.run_bind, Sem.run_pure, Result.andThen_ok, List.map_toArray, List.map_cons, List.map_nil, hs, hx, hrun]
    exact h w (room w hown) (Keep.refl _ _)
  | some ad =>
    have hsrc := hr.src
    rcases hsrc with ⟨h0, _⟩ | ⟨ad', c', hv, hl, hc, h1⟩
    · cases h0
    · simp only [Value.slice.injEq, Option.some.injEq] at hv
      obtain ⟨rfl, -, rfl⟩ := hv
      obtain ⟨w', hrun, ho2, hg⟩ := run_append_fits (P := Try.prog) w 0 22 o.type 5 i0 1 Try.underlying22 hi hz1 g 0 T [] hown ad n c2 (flat8 L) (by rw [hl, hL]) hc h1 (by omega)
      unfold Oper.wp execOp
      simp only [ho, resolve, invoke, builtin, Sem.run_bind, Sem.run_pure, Result.andThen_ok, List.map_toArray, List.map_cons, List.map_nil, hs, hx, hrun]
      simp only [Nat.zero_add, List.nil_append] at ho2 ⊢
      refine h w' (room w' ?_) ?_
      · unfold OwnY
        rw [hL]
        exact ho2
      · exact (Keep.of_grown hg).mono (fun k _ hk => (Option.some.inj hk).symm)

set_option maxRecDepth 10000 in
set_option maxHeartbeats 2000000 in
theorem walk_DigSame (w : World) (v : Value) (l : List B8) (h : ReadC w v l) (X : Int) (hX : (Lit.int .u8 X).wf = true) :
    Calls Try.prog 5 #[v, .int .u8 X] w fun e w' => e = .returned (.bool true) ∧ Below w.heap.size w w' := by
  obtain ⟨x, rfl⟩ : ∃ x : B8, X = (x.toNat : Int) := by
    have e1 : IntKind.u8.min = 0 := rfl
    have e2 : IntKind.u8.max = 255 := rfl
    simp [Lit.wf, e1, e2] at hX
    exact ⟨BitVec.ofInt 8 X, by simp only [BitVec.toNat_ofInt]; omega⟩
  obtain ⟨L, hL⟩ : ∃ L, l.take 700 = L := ⟨_, rfl⟩
  have hl : L.length ≤ 700 := by rw [← hL, List.length_take]; omega
  have HL := hid hL
  obtain ⟨n, hn⟩ : ∃ n, L.length = n := ⟨_, rfl⟩
  have HN := hid hn
  rw [hn] at hl
  have H := hid h
  obtain ⟨_, a, c, rfl, _, _⟩ := id h
  obtain ⟨S, hS, hSs⟩ : ∃ S : ByteArray, bstr (dgt L) = .string S ∧ S.size = 32 := ⟨bya (dgt L), rfl, by rw [bya_size, dgt_len]⟩
  obtain ⟨Z, hZ⟩ : ∃ Z : ByteArray, bstr L = .string Z := ⟨_, rfl⟩
  have HS := hid hS
  have HZ := hid hZ
  clear h hn hL hS hZ hX
  go_enter Try.func5, Try.ntmps5
  go_wp2_with fail
  refine (short_any H.out).mono ?_
  rintro _ _ ⟨v2, rfl, r2, rfl⟩
  rw [HL.out] at r2
  obtain ⟨hr2, a2, c2, hv2, hc2, hm2⟩ := r2
  rw [HN.out] at hv2 hc2
  subst hv2
  have RX := hid hr2
  clear hr2 H hc2 hm2
  obtain ⟨b, hb⟩ : ∃ b, w.heap.size = b := ⟨_, rfl⟩
  have w300 : IntKind.i64.wrap ((n : Int) + 300) = ((n + 300 : Nat) : Int) := by rw [IntWalk.i64_in _ ⟨by omega, by omega⟩]; omega
  go_wp2_with (at_make; refine wpList_plain rfl (fun K hK => wp_make_bytes _ _ _ rfl 0 (n + 300) rfl rfl (by omega) (by omega) ?_))
  intro W1 o1 k1
  refine hK _ _ ?_
  clear hK K
  try rw [hb] at o1
  have R1 := RX.out.keep k1 (fun _ _ h => h)
  have K1 := hid k1
  clear k1
  go_wp2_with (at_builtin; refine wpList_plain rfl (fun K hK => wp_append_fit _ (.tmp 16) (.tmp 17) rfl b n (n + 300) rfl o1 a2 c2 L rfl R1 HN.out (by omega) x ?_))
  intro W2 rm2 k2
  refine hK _ _ ?_
  clear hK K
  have RM := hid rm2
  have K2 := hid (K1.out.then k2 (fun y hy => .inr (by omega)))
  clear rm2 k2 o1 R1 K1
  go_wp2_with fail
  go_loopw [8] (fun i wr => ∃ k : Nat, n ≤ k ∧ k ≤ n + 300 ∧ i = .int .i64 k ∧ Room wr b n (n + 300) L x k ∧ Keep (fun _ => False) w wr) (fun i _ => n + 300 - (intOf i).toNat)
  case atStart => exact ⟨n, Nat.le_refl _, by omega, rfl, RM.out, K2.out⟩
  case round =>
    obtain ⟨k, hk0, hk, rfl, hR, hK⟩ := hrel
    have R3 := hid hR
    have K3 := hid hK
    clear RM K2 hR hK
    by_cases hlt : k < n + 300
    · have hlt' : (k : Int) < (n : Int) + 300 := by omega
      obtain ⟨⟨u, kc⟩, kf⟩ := R3.out.cell k hlt
      have R4 := hid (R3.out.set hk0 hlt)
      have K4 := hid (K3.out.setCell (p := ⟨b, k, none⟩) (.inr (by dsimp only; omega)) (.int .u8 (x.toNat : Int)))
      go_wp2_with fail
      go_roundw
      case rel => exact ⟨k + 1, by omega, by omega, by go_num, R4.out, K4.out⟩
      case measure => simp [intOf]; omega
    · obtain rfl : k = n + 300 := by omega
      have hlt' : ¬ ((n : Int) + 300 < (n : Int) + 300) := by omega
      have RY := hid (R3.out.read HN.out (by omega) (by unfold maxLen; omega))
      clear hk hk0 hlt
      go_wp2_with fail
      refine (of_any RY.out (by rw [HN.out]; omega)).mono ?_
      rintro _ W5 ⟨rfl, k5⟩
      rw [HS.out]
      have R5 := hid (R3.out.keep k5 (fun h => h))
      have K5 := hid (K3.out.trans k5)
      clear k5 R3 K3 RY
      go_wp2_with fail
      go_loopw [10] (fun i wr => ∃ k : Nat, n ≤ k ∧ k ≤ n + 300 ∧ i = .int .i64 k ∧ wr = W5) (fun i _ => n + 300 - (intOf i).toNat)
      case atStart => exact ⟨n, Nat.le_refl _, by omega, by simp⟩
      case round =>
        obtain ⟨k, hk0, hk, rfl, rfl⟩ := hrel
        by_cases hlt : k < n + 300
        · have hlt2 : (k : Int) < (n : Int) + 300 := by omega
          have kc := R5.out.get k hk0 hlt
          go_wp2_with fail
          go_roundw
          case rel => exact ⟨k + 1, by omega, by omega, by go_num, by first | trivial | rfl⟩
          case measure => simp [intOf]; omega
        · obtain rfl : k = n + 300 := by omega
          clear hk hk0 hlt
          go_wp2_with fail
          refine (dawake_any _).mono ?_
          rintro _ W7 ⟨rfl, k7⟩
          have R7 := hid (R5.out.keep k7 (fun h => h))
          have K7 := hid (K5.out.trans k7)
          have CY := bytes_conv (R7.out.read HN.out (by omega) (by unfold maxLen; omega))
          have CX := bytes_conv (RX.out.keep K7.out (fun _ _ h => h))
          rw [HZ.out] at CX CY
          have b1 := bytes_beq Z
          have b2 := bytes_beq S
          clear k7 R5 K5
          go_wp2_with fail
          refine (of_any (RX.out.keep K7.out (fun _ _ h => h)) (by rw [HN.out]; omega)).mono ?_
          rintro _ W8 ⟨rfl, k8⟩
          rw [HS.out]
          have K8 := hid (K7.out.trans k8)
          clear k8 K7 R7 CX CY
          go_wp2_with fail
          go_ret
          exact ⟨rfl, K8.out.below (fun _ h => h.elim) (Nat.le_refl _)⟩
end Go.Proofs.Ytpijnpapmdnceaa
