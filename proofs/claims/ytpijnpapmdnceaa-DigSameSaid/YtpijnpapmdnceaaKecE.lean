/- The walk of keccak.theta. -/
import Derived.Test.YtpijnpapmdnceaaKecD
import Derived.ChangeKeysEq
import Derived.IntWalk
import Derived.Deep.Cut
namespace Go.Proofs.Ytpijnpapmdnceaa
open Go Go.RowKit

/-- A state's cells. -/
def stv (s : List L64) : List Value := s.map fun a => .int .u64 (a.toNat : Int)
/-- Block b holds these lanes. -/
def RowL (w : World) (b T : Nat) (s : List L64) : Prop := w.heap[b]? = some (.cells (stv s).toArray T (0, 0))

theorem stv_len (s : List L64) : (stv s).length = s.length := by simp [stv]
theorem stv_get (s : List L64) (i : Nat) (h : i < s.length) : (stv s)[i]? = some (.int .u64 ((gl s i).toNat : Int)) := by
  simp [stv, gl, h]
theorem stv_set (s : List L64) (i : Nat) (a : L64) : (stv s).set i (.int .u64 (a.toNat : Int)) = stv (s.set i a) := by
  simp [stv, List.map_set]
theorem stv_one (s : List L64) : ((stv s).toArray).all (·.oneCell') = true := by
  rw [Array.all_eq_true_iff_forall_mem]
  intro v hv
  simp only [stv, List.mem_toArray, List.mem_map] at hv
  obtain ⟨a, _, rfl⟩ := hv
  rfl
theorem stv_inj : ∀ {s t : List L64}, stv s = stv t → s = t
  | [], [], _ => rfl
  | a :: s, b :: t, h => by
    simp only [stv, List.map_cons, List.cons.injEq, Value.int.injEq, true_and] at h
    have h1 : a = b := BitVec.eq_of_toNat_eq (by omega)
    rw [h1, stv_inj h.2]

theorem Try.infoS : (Try.prog.info? 28).map (·.size) = some 25 := by kernel_rfl
theorem Try.infoC : (Try.prog.info? 78).map (·.size) = some 5 := by kernel_rfl

section
variable {w w' : World} {b T : Nat} {s : List L64}
theorem RowL.lt (h : RowL w b T s) : b < w.heap.size := lt_of_heap h
theorem RowL.cell (h : RowL w b T s) (i : Nat) (hi : i < s.length) : w.cell? ⟨b, i, none⟩ = some (.int .u64 ((gl s i).toNat : Int)) := by
  rw [cell_of_row w b i _ _ _ h, List.getElem?_toArray]; exact stv_get s i hi
theorem RowL.fro (h : RowL w b T s) (i : Nat) : w.frozen? ⟨b, i, none⟩ = false := frozen_of_row w b i _ _ h
theorem RowL.set (h : RowL w b T s) (i : Nat) (a : L64) : RowL (w.setCell ⟨b, i, none⟩ (.int .u64 (a.toNat : Int))) b T (s.set i a) := by
  have := heap_setCell_same w b i _ T (.int .u64 (a.toNat : Int)) h
  rw [List.setIfInBounds_toArray, stv_set] at this
  exact this
theorem RowL.other (h : RowL w b T s) (a : Addr) (v : Value) (hne : b ≠ a.block) : RowL (w.setCell a v) b T s := (heap_setCell_other w a b v hne).trans h
theorem RowL.keep {F : Nat → Prop} (h : RowL w b T s) (hK : Keep F w w') (hF : ¬ F b) : RowL w' b T s := (hK.block b h.lt hF).trans h
theorem RowL.row {s' : List L64} (h : RowL w b T s) : RowL (w.setRow b (stv s').toArray) b T s' := setRow_heap w b _ _ T _ h
theorem RowL.otherRow (h : RowL w b T s) (g : Nat) (cs : Array Value) (hne : b ≠ g) : RowL (w.setRow g cs) b T s := (setRow_other w g b cs hne).trans h
end

theorem Try.sizeL : (Try.prog.info? 27).map (·.size) = some 1 := by kernel_rfl
theorem run_index_L (s : List L64) (hs : s.length = 25) (k : Nat) (hk : k < 25) (w : World) : (Instr.index 28 (.agg (stv s).toArray) (.int .i64 (k : Int))).run Try.prog w = .ok (.int .u64 ((gl s k).toNat : Int)) w := by
  obtain ⟨i, hi, h1⟩ : ∃ i, Try.prog.info? 27 = some i ∧ i.size = 1 := by
    have := Try.sizeL
    cases h : Try.prog.info? 27 with
    | none => rw [h] at this; cases this
    | some i => rw [h] at this; exact ⟨i, rfl, by simpa using this⟩
  have hg : (stv s).toArray[k]? = some (.int .u64 ((gl s k).toNat : Int)) := by rw [List.getElem?_toArray]; exact stv_get s k (by omega)
  have hp := run_part_plain (P := Try.prog) w (e := 27) (by kernel_rfl) hg
  have hz := run_sizeOf (P := Try.prog) w hi
  have hk2 : (0 : Int) ≤ (k : Int) ∧ (k : Int) < 25 := by omega
  have hc : Try.prog.cellsOf 27 = 1 := by kernel_rfl
  rw [hc] at hz
  simp only [Instr.index, asIntOf, Sem.run_bind, Sem.run_pure, Result.andThen_ok, run_underlying Try.underlying28]
  rw [if_pos (by exact hk2)]
  simp only [Sem.run_bind, hz, Result.andThen_ok, Int.toNat_natCast, Nat.mul_one]
  exact hp

section
variable {ops : Array Oper} {rest : List Oper} {o : Oper} {a : Act} {w : World} {K : Act → World → Prop} {Q : Exit → Act → World → Prop}
theorem wp_ld (x : Operand) (ho : o.op = .load 28 x) (g : Nat) (hx : a.eval x = .pointer (some ⟨g, 0, none⟩)) (s : List L64) (hs : s.length = 25) (hg : RowL w g 28 s)
    (h : K (a.put o.dst (.agg (stv s).toArray)) w) : o.wp Try.prog a w K Q :=
  wp_load_row _ x ho g hx _ _ _ _ hg Try.underlying28 rfl (by rw [Try.infoS]; simp [stv_len, hs]) h
theorem wpList_ld (x : Operand) (hgd : o.guard = none) (ho : o.op = .load 28 x) (g : Nat) (hx : a.eval x = .pointer (some ⟨g, 0, none⟩)) (s : List L64) (hs : s.length = 25) (hg : RowL w g 28 s)
    (h : wpList Try.prog ops Q rest (a.put o.dst (.agg (stv s).toArray)) w) : wpList Try.prog ops Q (o :: rest) a w :=
  wpList_load_row hgd _ x ho g hx _ _ _ _ hg Try.underlying28 rfl (by rw [Try.infoS]; simp [stv_len, hs]) h
theorem wp_st (x y : Operand) (ho : o.op = .store 28 x y) (g : Nat) (hx : a.eval x = .pointer (some ⟨g, 0, none⟩)) (s : List L64) (hs : s.length = 25) (hy : a.eval y = .agg (stv s).toArray) (u : List L64) (hu : u.length = 25) (hg : RowL w g 28 u)
    (h : K (a.put o.dst undef) (w.setRow g (stv s).toArray)) : o.wp Try.prog a w K Q :=
  wp_store_row _ x y ho g _ hx hy _ _ hg (by rw [Try.infoS]; simp [stv_len, hs]) (by simp [stv_len, hs, hu]) (stv_one s) h
theorem wpList_st (x y : Operand) (hgd : o.guard = none) (ho : o.op = .store 28 x y) (g : Nat) (hx : a.eval x = .pointer (some ⟨g, 0, none⟩)) (s : List L64) (hs : s.length = 25) (hy : a.eval y = .agg (stv s).toArray) (u : List L64) (hu : u.length = 25) (hg : RowL w g 28 u)
    (h : wpList Try.prog ops Q rest (a.put o.dst undef) (w.setRow g (stv s).toArray)) : wpList Try.prog ops Q (o :: rest) a w :=
  wpList_store_row hgd _ x y ho g _ hx hy _ _ hg (by rw [Try.infoS]; simp [stv_len, hs]) (by simp [stv_len, hs, hu]) (stv_one s) h
end

theorem res_cell {fn : Func} {p : Nat} {g : Nat} {s : List L64} (h : fn.results = #[.cell p 28]) (tmps : Array Value) (w : World) (hs : s.length = 25) (hp : tmps.getD p undef = .pointer (some ⟨g, 0, none⟩)) (hg : RowL w g 28 s) :
    (results fn tmps).run Try.prog w = .ok (.agg (stv s).toArray) w :=
  results_cell_row h tmps w g _ _ _ _ hp hg Try.underlying28 rfl (by rw [Try.infoS]; simp [stv_len, hs])
theorem Keep.setRow {F : Nat → Prop} {a w : World} (h : Keep F a w) {g : Nat} (hg : a.heap.size ≤ g) (cs : Array Value) : Keep F a (w.setRow g cs) := by
  obtain ⟨h1, h2, h3, h4, h5⟩ := h
  refine ⟨h1, h2, h3, by rw [size_setRow]; exact h4, fun i hi hf => (setRow_other w g i cs (by omega)).trans (h5 i hi hf)⟩

theorem Keep.setRowOwn {F : Nat → Prop} {a w : World} (h : Keep F a w) {g : Nat} (hg : F g) (cs : Array Value) : Keep F a (w.setRow g cs) := by
  obtain ⟨h1, h2, h3, h4, h5⟩ := h
  refine ⟨h1, h2, h3, by rw [size_setRow]; exact h4, fun i hi hf => (setRow_other w g i cs (fun e => hf (e ▸ hg))).trans (h5 i hi hf)⟩

theorem boxes3 (w : World) (A B C : List L64) (a b c : Nat) :
    RowL (((w.alloc (.cells (stv A).toArray a)).alloc (.cells (stv B).toArray b)).alloc (.cells (stv C).toArray c)) w.heap.size a A ∧
    RowL (((w.alloc (.cells (stv A).toArray a)).alloc (.cells (stv B).toArray b)).alloc (.cells (stv C).toArray c)) (w.heap.size + 1) b B ∧
    RowL (((w.alloc (.cells (stv A).toArray a)).alloc (.cells (stv B).toArray b)).alloc (.cells (stv C).toArray c)) (w.heap.size + 1 + 1) c C ∧
    Keep (fun _ => False) w (((w.alloc (.cells (stv A).toArray a)).alloc (.cells (stv B).toArray b)).alloc (.cells (stv C).toArray c)) := by
  have e1 : RowL (w.alloc (.cells (stv A).toArray a)) w.heap.size a A := heap_alloc_new w _
  have e2 : RowL ((w.alloc (.cells (stv A).toArray a)).alloc (.cells (stv B).toArray b)) (w.heap.size + 1) b B := by
    have := heap_alloc_new (w.alloc (.cells (stv A).toArray a)) (.cells (stv B).toArray b)
    rw [World.size_alloc] at this; exact this
  have e3 : RowL (((w.alloc (.cells (stv A).toArray a)).alloc (.cells (stv B).toArray b)).alloc (.cells (stv C).toArray c)) (w.heap.size + 1 + 1) c C := by
    have := heap_alloc_new ((w.alloc (.cells (stv A).toArray a)).alloc (.cells (stv B).toArray b)) (.cells (stv C).toArray c)
    rw [World.size_alloc, World.size_alloc] at this; exact this
  exact ⟨(e1.keep ((Keep.refl (fun _ => False) _).alloc _) (fun h => h)).keep ((Keep.refl (fun _ => False) _).alloc _) (fun h => h), e2.keep ((Keep.refl (fun _ => False) _).alloc _) (fun h => h), e3, (((Keep.refl _ _).alloc _).alloc _).alloc _⟩

theorem wrap64_in (n : Int) (h1 : -9223372036854775808 ≤ n) (h2 : n ≤ 9223372036854775807) : IntKind.i64.wrap n = n := IntWalk.i64_in n ⟨h1, h2⟩

/-- Two states are one. -/
structure Is (s t : List L64) : Prop where
  eq : s = t

/-- The columns' sums. -/
structure IsC (s c : List L64) : Prop where
  eq : thC s 25 = c

theorem thC_succ (s : List L64) (k : Nat) : thC s (k + 1) = (thC s k).set (k % 5) (gl (thC s k) (k % 5) ^^^ gl s k) := by
  unfold thC; rw [List.range_succ, List.foldl_append, List.foldl_cons, List.foldl_nil]; rfl
theorem thS_succ (c s : List L64) (k : Nat) : thS c s (k + 1) = (thS c s k).set k (gl (thS c s k) k ^^^ (gl c ((k % 5 + 4) % 5) ^^^ rot (gl c ((k % 5 + 1) % 5)) 1)) := by
  unfold thS; rw [List.range_succ, List.foldl_append, List.foldl_cons, List.foldl_nil]; rfl

set_option maxRecDepth 10000 in
set_option maxHeartbeats 2000000 in
theorem theta_any (s : List L64) (hs : s.length = 25) (w : World) :
    Calls Try.prog 49 #[.agg (stv s).toArray] w fun e w' => e = .returned (.agg (stv (theta s)).toArray) ∧ Keep (fun _ => False) w w' := by
  have r1 : RowL (w.alloc (.cells (stv s).toArray 28)) w.heap.size 28 s := heap_alloc_new w _
  go_enter Try.func49, Try.ntmps49
  go_wp2_with (with_reducible refine wpList_ld (.tmp 1) rfl rfl _ rfl s hs (RowL.keep r1 (((Keep.refl (fun _ => False) _).alloc _).alloc _) (fun h => h)) ?_)
  obtain ⟨q1, q2, q3, kk⟩ := boxes3 w s z25 z5 28 28 78
  have q1 := hid q1
  have q2 := hid q2
  have q3 := hid q3
  have kk := hid kk
  clear r1
  go_loopw [9] (fun i wr => ∃ k : Nat, k ≤ 25 ∧ i = .int .i64 k ∧ RowL wr w.heap.size 28 s ∧ RowL wr (w.heap.size + 1) 28 z25 ∧ RowL wr (w.heap.size + 1 + 1) 78 (thC s k) ∧ Keep (fun _ => False) w wr) (fun i _ => 25 - (intOf i).toNat)
  case atStart => exact ⟨0, Nat.zero_le _, rfl, q1.out, q2.out, q3.out, kk.out⟩
  case round =>
    obtain ⟨k, hk, rfl, h1, h2, h3, hK⟩ := hrel
    clear q1 q2 q3 kk
    have H1 := hid h1
    have H2 := hid h2
    have H3 := hid h3
    have HK := hid hK
    clear h1 h2 hK
    by_cases hlt : k < 25
    · have ix := run_index_L s hs k hlt
      have c3 := h3.cell (k % 5) (by rw [thC_len]; omega)
      have f3 := h3.fro (k % 5)
      have TS := hid (thC_succ s k)
      have X := hid (xor_val (gl (thC s k) (k % 5)) (gl s k))
      clear h3
      go_wp2
      go_roundw
      case rel => exact ⟨k + 1, by omega, by go_num, H1.out.other _ _ (by dsimp only; omega), H2.out.other _ _ (by dsimp only; omega), by rw [TS.out, X.out]; exact H3.out.set _ _, HK.out.setCell (.inr (by dsimp only; omega)) _⟩
      case measure => simp [intOf]; omega
    · have hk25 : k = 25 := by omega
      obtain ⟨c, hc⟩ : ∃ c, thC s k = c := ⟨_, rfl⟩
      have hcl : c.length = 5 := by rw [← hc, thC_len]
      rw [hc] at H3
      have CC : IsC s c := ⟨by rw [← hc, hk25]⟩
      clear h3 hc hk25
      go_wp2
      clear hk hlt
      go_loopw [21] (fun i wr => ∃ k : Nat, k ≤ 25 ∧ i = .int .i64 k ∧ RowL wr w.heap.size 28 (thS c s k) ∧ RowL wr (w.heap.size + 1) 28 z25 ∧ RowL wr (w.heap.size + 1 + 1) 78 c ∧ Keep (fun _ => False) w wr) (fun i _ => 25 - (intOf i).toNat)
      case atStart => exact ⟨0, Nat.zero_le _, rfl, H1.out, H2.out, H3.out, HK.out⟩
      case round =>
        obtain ⟨k, hk, rfl, h1, h2, h3, hK⟩ := hrel
        clear H1 H2 H3 HK
        have H1 := hid h1
        have H2 := hid h2
        have H3 := hid h3
        have HK := hid hK
        by_cases hlt : k < 25
        · have c1 := h1.cell k (by rw [thS_len]; omega)
          have f1 := h1.fro k
          have c2 := h3.cell ((k % 5 + 4) % 5) (by omega)
          have c3 := h3.cell ((k % 5 + 1) % 5) (by omega)
          have TS := thS_succ c s k
          clear h1 h2 h3 hK
          obtain ⟨x, hx⟩ : ∃ x, k % 5 = x := ⟨_, rfl⟩
          have hx5 : x < 5 := by omega
          have hki : (k : Int) % 5 = (x : Int) := by omega
          rw [hx] at c2 c3
          have HX := hid hx
          have e1 : IntKind.i64.wrap ((x : Int) + 5) = (x : Int) + 5 := wrap64_in _ (by omega) (by omega)
          have e2 : IntKind.i64.wrap ((x : Int) + 5 - 1) = (x : Int) + 5 - 1 := wrap64_in _ (by omega) (by omega)
          have e3 : IntKind.i64.wrap ((x : Int) + 1) = (x : Int) + 1 := wrap64_in _ (by omega) (by omega)
          obtain ⟨p, hp⟩ : ∃ p, (x + 4) % 5 = p := ⟨_, rfl⟩
          obtain ⟨q, hq⟩ : ∃ q, (x + 1) % 5 = q := ⟨_, rfl⟩
          have e4 : ((x : Int) + 5 - 1).tmod 5 = (p : Int) := by rw [Int.tmod_eq_emod_of_nonneg (by omega)]; omega
          have e5 : ((x : Int) + 1).tmod 5 = (q : Int) := by rw [Int.tmod_eq_emod_of_nonneg (by omega)]; omega
          have p5 : (p : Int) < 5 := by omega
          have q5 : (q : Int) < 5 := by omega
          have p0 : (0 : Int) ≤ p := by omega
          have q0 : (0 : Int) ≤ q := by omega
          have k25 : (k : Int) < 25 := by omega
          have k0 : (0 : Int) ≤ k := by omega
          rw [hx, hp, hq] at TS
          rw [hp] at c2
          rw [hq] at c3
          have X1 := hid (xor_val (gl c p) (rot (gl c q) 1))
          have X2 := hid (xor_val (gl (thS c s k) k) (gl c p ^^^ rot (gl c q) 1))
          have TS := hid TS
          clear hx hx5 hp hq HX
          go_wp2_with fail
          rw [hki]
          refine wp_region_text [0,0,0,0,0,0,0,0,0,0,0,0,0,0,2,0,0,0,3] (fun W => W.cell? ⟨w.heap.size, k, none⟩ = some (.int .u64 ((gl (thS c s k) k).toNat : Int)) ∧ W.cell? ⟨w.heap.size + 1 + 1, p, none⟩ = some (.int .u64 ((gl c p).toNat : Int)) ∧ W.cell? ⟨w.heap.size + 1 + 1, q, none⟩ = some (.int .u64 ((gl c q).toNat : Int))) (by kernel_rfl) (by kernel_rfl) ⟨c1, c2, c3⟩ ?_
          repeat (first
            | (refine' wpT_calm (v := _) (by rfl) (fun W hW => ?_) ?_; rotate_left
               · ((try dsimp only at hW); go_simp; first | done | rfl)
               simp only [Act.put, List.setIfInBounds_toArray, List.set_cons_zero, List.set_cons_succ])
            | (refine' wpT_reads (v := _) (by rfl) ?_ ?_; rotate_left
               · (go_simp; first | done | rfl)
               simp only [Act.put, List.setIfInBounds_toArray, List.set_cons_zero, List.set_cons_succ])
            | (refine wpT_skip (by rfl) rfl ?_; simp only [Act.put, List.setIfInBounds_toArray, List.set_cons_zero, List.set_cons_succ])
            | (refine wpT_does (by rfl) (fun K hK => ?_); go_simp; refine hK _ _ ?_ ?_
               · (trivial)
               clear hK K; try simp only [Act.put, List.setIfInBounds_toArray, List.set_cons_zero, List.set_cons_succ])
            | (refine wpT_last (by rfl) (fun K hK => ?_); go_simp; refine hK _ _ ?_; clear hK K)
            | (refine wpT_nil ?_))
          refine wpT_does (by rfl) (fun K hK => ?_)
          go_simp
          refine (rot_any _ 1 (by decide) _).mono ?_
          rintro _ _ ⟨rfl, rfl⟩
          refine hK _ _ ⟨c1, c2, c3⟩ ?_
          clear hK K
          try simp only [Act.put, List.setIfInBounds_toArray, List.set_cons_zero, List.set_cons_succ]
          repeat (first
            | (refine' wpT_calm (v := _) (by rfl) (fun W hW => ?_) ?_; rotate_left
               · ((try dsimp only at hW); go_simp; first | done | rfl)
               simp only [Act.put, List.setIfInBounds_toArray, List.set_cons_zero, List.set_cons_succ])
            | (refine' wpT_reads (v := _) (by rfl) ?_ ?_; rotate_left
               · (go_simp; first | done | rfl)
               simp only [Act.put, List.setIfInBounds_toArray, List.set_cons_zero, List.set_cons_succ])
            | (refine wpT_skip (by rfl) rfl ?_; simp only [Act.put, List.setIfInBounds_toArray, List.set_cons_zero, List.set_cons_succ])
            | (refine wpT_does (by rfl) (fun K hK => ?_); go_simp; refine hK _ _ ?_ ?_
               · (trivial)
               clear hK K; try simp only [Act.put, List.setIfInBounds_toArray, List.set_cons_zero, List.set_cons_succ])
            | (refine wpT_last (by rfl) (fun K hK => ?_); go_simp; refine hK _ _ ?_; clear hK K)
            | (refine wpT_nil ?_))
          go_wp2
          go_roundw
          case rel => exact ⟨k + 1, by omega, by go_num, by rw [TS.out, X1.out, X2.out]; exact RowL.set (w := wr.drew) H1.out _ _, RowL.other (w := wr.drew) H2.out _ _ (by dsimp only; omega), RowL.other (w := wr.drew) H3.out _ _ (by dsimp only; omega), HK.out.drew.setCell (.inr (by dsimp only; omega)) _⟩
          case measure => simp [intOf]; omega
        · obtain rfl : k = 25 := by omega
          clear h1 h2 h3 hK hk hlt
          have hl : (thS c s 25).length = 25 := by rw [thS_len, hs]
          have HE : Is (theta s) (thS c s 25) := ⟨by unfold theta; rw [CC.eq]⟩
          obtain ⟨u, hu⟩ : ∃ u, thS c s 25 = u := ⟨_, rfl⟩
          rw [hu] at H1 hl HE
          clear hu CC
          go_wp2_with (first | (with_reducible refine wpList_ld (.tmp 1) rfl rfl _ rfl u hl H1.out ?_) | (with_reducible refine wpList_st (.tmp 2) (.tmp 45) rfl rfl _ rfl u hl rfl z25 rfl H2.out ?_))
          refine bodyPost_ret (res_cell (p := 2) (g := w.heap.size + 1) (s := u) rfl _ _ hl rfl H2.out.row) rfl ⟨?_, HK.out.setRow (by omega) _⟩
          rw [HE.eq]
end Go.Proofs.Ytpijnpapmdnceaa
