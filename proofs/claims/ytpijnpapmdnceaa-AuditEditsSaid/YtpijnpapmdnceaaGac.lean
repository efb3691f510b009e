/- The walks of the reference's bit, turns. The walk of the reference's Round: its first loops. Keccak: the reference's Permute; states held against each other; awake. -/
import Derived.Test.YtpijnpapmdnceaaGab

namespace Go.Proofs.Ytpijnpapmdnceaa
open Go Go.RowKit

theorem lf_xor2 : ∀ r : Fin 256, 256 ≤ 2 * r.1 → bits .xor .i64 (2 * ((r.1 : Nat) : Int)) 369 = ((lf1 r.1 : Nat) : Int) := by decide +kernel

set_option maxRecDepth 10000 in
set_option maxHeartbeats 2000000 in
theorem bit_any (t : Nat) (ht : t ≤ 200) (w : World) :
    Calls Try.prog 54 #[.int .i64 (t : Int)] w fun e w' => e = .returned (.int .u64 ((lf t % 2 : Nat) : Int)) ∧ w = w' := by
  go_enter Try.func54, Try.ntmps54
  go_wp2
  go_loop [3, 4] (fun r i => ∃ k : Nat, k ≤ t ∧ i = .int .i64 k ∧ r = .int .i64 (lf k)) (fun _ i => t - (intOf i).toNat)
  case atStart => exact ⟨0, Nat.zero_le _, rfl, rfl⟩
  case round =>
    obtain ⟨k, hk, rfl, rfl⟩ := hrel
    have hr := lf_lt k
    by_cases hlt : k < t
    · have L : lf (k + 1) = lf1 (lf k) := rfl
      have x2 := lf_xor2 ⟨lf k, hr⟩
      have x3 := @lf1_small (lf k)
      dsimp only at x2
      obtain ⟨r, hrr⟩ : ∃ r, lf k = r := ⟨_, rfl⟩
      rw [hrr] at hr L x2 x3 ⊢
      have r0 : (0 : Int) ≤ (r : Int) := by omega
      have r1 : (r : Int) ≤ 255 := by omega
      have hkl : (k : Int) < (t : Int) := by omega
      clear hrr hr
      by_cases hbig : 256 ≤ 2 * r
      · have x2 := x2 hbig
        obtain ⟨r', hr'⟩ : ∃ r', lf1 r = r' := ⟨_, rfl⟩
        rw [hr'] at x2 L
        have LL := hid L
        have t1 : decide (256 ≤ 2 * (r : Int)) = true := decide_eq_true (by omega)
        have HB := hid hbig
        clear x3 hr' L hbig
        go_wp2
        go_round
        case rel => exact ⟨k + 1, by omega, by go_num, by rw [LL.out]⟩
        case measure => simp [intOf]; omega
      · have x3 := x3 hbig
        rw [x3] at L
        have LL := hid L
        have t1 : decide (256 ≤ 2 * (r : Int)) = false := decide_eq_false (by omega)
        have HB := hid hbig
        clear x3 x2 L hbig
        go_wp2
        go_round
        case rel => exact ⟨k + 1, by omega, by go_num, by rw [LL.out]; first | rfl | (congr 1; omega)⟩
        case measure => simp [intOf]; omega
    · obtain rfl : k = t := by omega
      obtain ⟨r, hrr⟩ : ∃ r, lf k = r := ⟨_, rfl⟩
      have hkl : ¬ (k : Int) < (k : Int) := by omega
      rw [hrr] at hr ⊢
      have r0 : (0 : Int) ≤ (r : Int) := by omega
      have r1 : (r : Int) ≤ 255 := by omega
      have HE := hid hrr
      clear hlt hrr hk
      go_wp2
      go_ret
      exact ⟨by rw [HE.out]; rfl, rfl⟩

/-- A row of values; of numbers. -/
def RowV (w : World) (b T : Nat) (vs : List Value) : Prop := w.heap[b]? = some (.cells vs.toArray T (0, 0))
def ntv (l : List Nat) : List Value := l.map fun (n : Nat) => Value.int .i64 (n : Int)
theorem ntv_len (l : List Nat) : (ntv l).length = l.length := by simp [ntv]
theorem ntv_get (l : List Nat) (i : Nat) (h : i < l.length) : (ntv l)[i]? = some (.int .i64 ((l.getD i 0 : Nat) : Int)) := by simp [ntv, h]
theorem ntv_set (l : List Nat) (i n : Nat) : (ntv l).set i (.int .i64 (n : Int)) = ntv (l.set i n) := by simp [ntv, List.map_set]
theorem ntv_one (l : List Nat) : ((ntv l).toArray).all (·.oneCell') = true := by
  rw [Array.all_eq_true_iff_forall_mem]
  intro v hv
  simp only [ntv, List.mem_toArray, List.mem_map] at hv
  obtain ⟨a, _, rfl⟩ := hv
  rfl
theorem RowV.cell {w : World} {b T : Nat} {l : List Nat} (h : RowV w b T (ntv l)) (i : Nat) (hi : i < l.length) : w.cell? ⟨b, i, none⟩ = some (.int .i64 ((l.getD i 0 : Nat) : Int)) := by
  rw [cell_of_row w b i _ _ _ h, List.getElem?_toArray]; exact ntv_get l i hi
theorem RowV.fro {w : World} {b T : Nat} {vs : List Value} (h : RowV w b T vs) (i : Nat) : w.frozen? ⟨b, i, none⟩ = false := frozen_of_row w b i _ _ h
theorem RowV.set {w : World} {b T : Nat} {l : List Nat} (h : RowV w b T (ntv l)) (i n : Nat) : RowV (w.setCell ⟨b, i, none⟩ (.int .i64 (n : Int))) b T (ntv (l.set i n)) := by
  have := heap_setCell_same w b i _ T (.int .i64 (n : Int)) h
  rw [List.setIfInBounds_toArray, ntv_set] at this
  exact this
theorem RowV.lt {w : World} {b T : Nat} {vs : List Value} (h : RowV w b T vs) : b < w.heap.size := lt_of_heap h
theorem RowV.other {w : World} {b T : Nat} {vs : List Value} (h : RowV w b T vs) (a : Addr) (v : Value) (hne : b ≠ a.block) : RowV (w.setCell a v) b T vs := (heap_setCell_other w a b v hne).trans h
theorem RowV.otherRow {w : World} {b T : Nat} {vs : List Value} (h : RowV w b T vs) (g : Nat) (cs : Array Value) (hne : b ≠ g) : RowV (w.setRow g cs) b T vs := (setRow_other w g b cs hne).trans h
theorem RowV.row {w : World} {b T : Nat} {vs vs' : List Value} (h : RowV w b T vs) : RowV (w.setRow b vs'.toArray) b T vs' := setRow_heap w b _ _ T _ h
theorem RowV.keep {F : Nat → Prop} {w w' : World} {b T : Nat} {vs : List Value} (h : RowV w b T vs) (hK : Keep F w w') (hF : ¬ F b) : RowV w' b T vs := (hK.block b h.lt hF).trans h
theorem RowV.mk {w : World} (T : Nat) (vs : List Value) : RowV (w.alloc (.cells vs.toArray T)) w.heap.size T vs := heap_alloc_new w _

theorem Try.infoT : (Try.prog.info? 82).map (·.size) = some 25 := by kernel_rfl
theorem Try.infoA : (Try.prog.info? 79).map (·.size) = some 25 := by kernel_rfl

section
variable {ops : Array Oper} {rest : List Oper} {o : Oper} {a : Act} {w : World} {K : Act → World → Prop} {Q : Exit → Act → World → Prop}
theorem wpList_ldV (T k e : Nat) (hT : Try.prog.underlying T = some (.array k e)) (n : Nat) (hi : (Try.prog.info? T).map (·.size) = some n)
    (x : Operand) (hgd : o.guard = none) (ho : o.op = .load T x) (g : Nat) (hx : a.eval x = .pointer (some ⟨g, 0, none⟩)) (vs : List Value) (hs : vs.length = n) (t : Nat) (hg : RowV w g t vs)
    (h : wpList Try.prog ops Q rest (a.put o.dst (.agg vs.toArray)) w) : wpList Try.prog ops Q (o :: rest) a w :=
  wpList_load_row hgd _ x ho g hx _ _ _ _ hg hT rfl (by rw [hi]; simp [hs]) h
theorem wpList_stV (T n : Nat) (hi : (Try.prog.info? T).map (·.size) = some n)
    (x y : Operand) (hgd : o.guard = none) (ho : o.op = .store T x y) (g : Nat) (hx : a.eval x = .pointer (some ⟨g, 0, none⟩)) (vs : List Value) (hs : vs.length = n) (hv : vs.toArray.all (·.oneCell') = true) (hy : a.eval y = .agg vs.toArray) (us : List Value) (hu : us.length = n) (t : Nat) (hg : RowV w g t us)
    (h : wpList Try.prog ops Q rest (a.put o.dst undef) (w.setRow g vs.toArray)) : wpList Try.prog ops Q (o :: rest) a w :=
  wpList_store_row hgd _ x y ho g _ hx hy _ _ hg (by rw [hi]; simp [hs]) (by simp [hs, hu]) hv h
end

/-- Two lists of numbers are one. -/
structure IsN (s t : List Nat) : Prop where
  eq : s = t

theorem tnS_succ (k : Nat) : tnS (k + 1) = tn1 (tnS k) k := by unfold tnS; rw [List.range_succ, List.foldl_append, List.foldl_cons, List.foldl_nil]
theorem tnS_pos : ∀ k, (tnS k).x < 5 ∧ (tnS k).y < 5 ∧ (tnS k).o.length = 25
  | 0 => ⟨by show 1 < 5; decide, by show 0 < 5; decide, by show zn.length = 25; decide⟩
  | k + 1 => by
    have := tnS_pos k
    rw [tnS_succ]
    exact ⟨this.2.1, Nat.mod_lt _ (by decide), by unfold tn1; rw [List.length_set]; exact this.2.2⟩

theorem built58 : Try.prog.built 82 [] = some (ntv zn).toArray := by kernel_rfl
theorem built55 : Try.prog.built 79 [] = some (stv z25).toArray := by kernel_rfl
theorem built37 : Try.prog.built 28 [] = some (stv z25).toArray := by kernel_rfl
theorem run_b58 (w : World) : (Instr.build 82 #[]).run Try.prog w = .ok (.agg (ntv zn).toArray) w := run_build w _ _ _ built58
theorem run_b55 (w : World) : (Instr.build 79 #[]).run Try.prog w = .ok (.agg (stv z25).toArray) w := run_build w _ _ _ built55
theorem run_b37 (w : World) : (Instr.build 28 #[]).run Try.prog w = .ok (.agg (stv z25).toArray) w := run_build w _ _ _ built37

theorem ntv_zn : (ntv zn).length = 25 := rfl
theorem stv_z25 : (stv z25).length = 25 := rfl
theorem wpList_bd {T : Nat} {cs : Array Value} (hb : Try.prog.built T [] = some cs) {ops : Array Oper} {rest : List Oper} {o : Oper} {a : Act} {w : World} {Q : Exit → Act → World → Prop} (hgd : o.guard = none) (ho : o.op = .build T #[])
    (h : wpList Try.prog ops Q rest (a.put o.dst (.agg cs)) w) : wpList Try.prog ops Q (o :: rest) a w := by
  refine wpList_plain hgd fun K hK => ?_
  unfold Oper.wp execOp
  simp only [ho, Sem.run_bind, run_build (P := Try.prog) w T _ cs hb, Array.map_empty, Result.andThen_ok]
  exact hK _ _ h

set_option maxRecDepth 10000 in
set_option maxHeartbeats 2000000 in
theorem turns_any (w : World) :
    Calls Try.prog 53 #[] w fun e w' => ∃ l, IsN turns l ∧ l.length = 25 ∧ e = .returned (.agg (ntv l).toArray) ∧ Keep (fun _ => False) w w' := by
  have q0 := hid (RowV.keep (RowV.mk (w := w) 82 (ntv zn)) ((Keep.refl (fun _ => False) _).alloc (.cells (ntv zn).toArray 82)) (fun h => h))
  have q1 := RowV.mk (w := w.alloc (.cells (ntv zn).toArray 82)) 82 (ntv zn)
  rw [World.size_alloc] at q1
  have q1 := hid q1
  have kk := hid (((Keep.refl (fun _ => False) w).alloc (.cells (ntv zn).toArray 82)).alloc (.cells (ntv zn).toArray 82))
  have r0 := hid (q0.out.otherRow (w.heap.size + 1) (ntv zn).toArray (by omega))
  have r1 := hid (q1.out.row (vs' := ntv zn))
  have rk := hid (kk.out.setRow (g := w.heap.size + 1) (by omega) (ntv zn).toArray)
  clear q0 kk
  go_enter Try.func53, Try.ntmps53
  go_wp2_with (first | (with_reducible refine wpList_bd built58 rfl rfl ?_) | ((with_reducible refine wpList_stV 82 25 Try.infoT (.tmp 1) (.tmp 6) rfl rfl _ rfl (ntv zn) ntv_zn (ntv_one _) rfl (ntv zn) ntv_zn 82 ?_ ?_); exact q1.out))
  clear q1
  have hin := tnS_pos 0
  go_loopw [2, 3, 4] (fun x y i wr => ∃ (k : Nat) (a b : Nat) (l : List Nat), k ≤ 24 ∧ i = .int .i64 k ∧ x = .int .i64 a ∧ y = .int .i64 b ∧ tnS k = ⟨a, b, l⟩ ∧ RowV wr w.heap.size 82 (ntv zn) ∧ RowV wr (w.heap.size + 1) 82 (ntv l) ∧ Keep (fun _ => False) w wr) (fun _ _ i _ => 24 - (intOf i).toNat)
  case atStart => exact ⟨0, 1, 0, zn, Nat.zero_le _, rfl, rfl, rfl, rfl, r0.out, r1.out, rk.out⟩
  case round =>
    obtain ⟨k, x, y, l, hk, rfl, rfl, rfl, ht, h0, h1, hK⟩ := hrel
    clear r0 r1 rk hin
    have H0 := hid h0
    have H1 := hid h1
    have HK := hid hK
    obtain ⟨hx5, hy5, hl⟩ := tnS_pos k
    have TS := tnS_succ k
    rw [ht] at hx5 hy5 hl TS
    dsimp only [tn1] at hx5 hy5 hl TS
    by_cases hlt : k < 24
    · obtain ⟨z, hz⟩ : ∃ z, (2 * x + 3 * y) % 5 = z := ⟨_, rfl⟩
      obtain ⟨n, hn⟩ : ∃ n, (k + 1) * (k + 2) / 2 % 64 = n := ⟨_, rfl⟩
      rw [hz, hn] at TS
      have hnn : ((k : Int) + 1) * ((k : Int) + 2) / 2 % 64 = (n : Int) := by rw [← hn]; norm_cast
      have m1 : (k + 1) * (k + 2) ≤ 25 * 26 := Nat.mul_le_mul (by omega) (by omega)
      have m2 : ((k : Int) + 1) * ((k : Int) + 2) ≤ 650 := by exact_mod_cast m1
      have m3 : 0 ≤ ((k : Int) + 1) * ((k : Int) + 2) := by exact_mod_cast Nat.zero_le ((k + 1) * (k + 2))
      have hzz : (2 * (x : Int) + 3 * (y : Int)) % 5 = (z : Int) := by omega
      have k25 : (k : Int) < 24 := by omega
      have k0 : (0 : Int) ≤ k := by omega
      have x0 : (0 : Int) ≤ x := by omega
      have x5 : (x : Int) < 5 := by omega
      have y0 : (0 : Int) ≤ y := by omega
      have y5 : (y : Int) < 5 := by omega
      have c1 := h1.cell (x * 5 + y) (by omega)
      have f1 := h1.fro (x * 5 + y)
      have TS := hid TS
      clear h0 h1 hK ht hx5 hy5 hn m1 hz
      go_wp2
      go_roundw
      case rel => exact ⟨k + 1, y, z, _, by omega, by go_num, rfl, by first | rfl | rw [hzz], TS.out, H0.out.other _ _ (by dsimp only; omega), H1.out.set _ _, HK.out.setCell (.inr (by dsimp only; omega)) _⟩
      case measure => simp [intOf]; omega
    · have hk24 : k = 24 := by omega
      have HE : IsN turns l := ⟨by unfold turns; rw [← hk24, ht]⟩
      have hl2 : (ntv l).length = 25 := by rw [ntv_len, hl]
      clear h0 h1 hK hk24 hx5 hy5 TS ht
      go_wp2_with (first | (with_reducible refine wpList_ldV 82 _ _ Try.underlying82 25 Try.infoT (.tmp 1) rfl rfl _ rfl (ntv l) hl2 _ H1.out ?_) | (with_reducible refine wpList_stV 82 25 Try.infoT (.tmp 0) (.tmp 30) rfl rfl _ rfl (ntv l) hl2 (ntv_one _) rfl (ntv zn) ntv_zn _ H0.out ?_))
      refine bodyPost_ret (results_cell_row rfl _ _ w.heap.size _ (ntv l).toArray _ _ rfl H0.out.row Try.underlying82 rfl (by rw [Try.infoT]; simp [hl2])) rfl ⟨l, HE, hl, rfl, HK.out.setRow (by omega) _⟩
end Go.Proofs.Ytpijnpapmdnceaa

namespace Go.Proofs.Ytpijnpapmdnceaa
open Go Go.RowKit

theorem not_val (a : L64) : bits .xor .u64 (if IntKind.u64.signed = true then -1 else IntKind.u64.max) (a.toNat : Int) = ((~~~ a).toNat : Int) := by
  have e : (if IntKind.u64.signed = true then -1 else IntKind.u64.max) = (((~~~ 0#64 : L64).toNat : Nat) : Int) := by decide
  have h : (~~~ 0#64 : L64) ^^^ a = ~~~ a := by
    refine BitVec.eq_of_getLsbD_eq fun i hi => ?_
    rw [BitVec.getLsbD_xor, BitVec.getLsbD_not, BitVec.getLsbD_not]
    simp [hi]
  rw [e, xor_val, h]
theorem set_self (o : List L64) : o.set 0 (gl o 0) = o := by cases o <;> simp [gl]
/-- Two lanes are one. -/
structure IsL (s t : L64) : Prop where
  eq : s = t

theorem fold_succ {A : Type} (f : A → Nat → A) (a : A) (n : Nat) : (List.range (n + 1)).foldl f a = f ((List.range n).foldl f a) n := by
  rw [List.range_succ, List.foldl_append, List.foldl_cons, List.foldl_nil]

def fA1 (s : List L64) (x : Nat) : List L64 := (List.range x).foldl (ra1 s) z25
def fA2 (s : List L64) (x : Nat) (a : List L64) (y : Nat) : List L64 := (List.range y).foldl (ra2 s x) a
def fA3 (s : List L64) (x y : Nat) (a : List L64) (k : Nat) : List L64 := (List.range k).foldl (ra3 s x y) a
def rb2l (l : List Nat) (a : List L64) (x : Nat) (b : List L64) (y : Nat) : List L64 := b.set (y * 5 + (2 * x + 3 * y) % 5) (rot (gl a (x * 5 + y)) (l.getD (x * 5 + y) 0))
def fB2 (l : List Nat) (a : List L64) (x : Nat) (b : List L64) (y : Nat) : List L64 := (List.range y).foldl (rb2l l a x) b
def fB1 (l : List Nat) (a : List L64) (x : Nat) : List L64 := (List.range x).foldl (fun b x => fB2 l a x b 5) z25
def fO2 (b : List L64) (x : Nat) (o : List L64) (y : Nat) : List L64 := (List.range y).foldl (ro2 b x) o
def fO1 (b : List L64) (x : Nat) : List L64 := (List.range x).foldl (ro1 b) z25

theorem fA1_succ (s : List L64) (x : Nat) : fA1 s (x + 1) = fA2 s x (fA1 s x) 5 := by unfold fA1; rw [fold_succ]; rfl
theorem fA2_succ (s : List L64) (x : Nat) (a : List L64) (y : Nat) : fA2 s x a (y + 1) = fA3 s x y ((fA2 s x a y).set (x * 5 + y) (gl s (x + 5 * y))) 5 := by unfold fA2; rw [fold_succ]; rfl
theorem fA3_succ (s : List L64) (x y : Nat) (a : List L64) (k : Nat) : fA3 s x y a (k + 1) = (fA3 s x y a k).set (x * 5 + y) (gl (fA3 s x y a k) (x * 5 + y) ^^^ gl s ((x + 4) % 5 + 5 * k) ^^^ rot (gl s ((x + 1) % 5 + 5 * k)) 1) := by unfold fA3; rw [fold_succ]; rfl
theorem fB1_succ (l : List Nat) (a : List L64) (x : Nat) : fB1 l a (x + 1) = fB2 l a x (fB1 l a x) 5 := by unfold fB1; rw [fold_succ]
theorem fB2_succ (l : List Nat) (a : List L64) (x : Nat) (b : List L64) (y : Nat) : fB2 l a x b (y + 1) = (fB2 l a x b y).set (y * 5 + (2 * x + 3 * y) % 5) (rot (gl a (x * 5 + y)) (l.getD (x * 5 + y) 0)) := by unfold fB2; rw [fold_succ]; rfl
theorem fO1_succ (b : List L64) (x : Nat) : fO1 b (x + 1) = fO2 b x (fO1 b x) 5 := by unfold fO1; rw [fold_succ]; rfl
theorem fO2_succ (b : List L64) (x : Nat) (o : List L64) (y : Nat) : fO2 b x o (y + 1) = (fO2 b x o y).set (x + 5 * y) (gl b (x * 5 + y) ^^^ (gl b ((x + 2) % 5 * 5 + y) &&& ~~~ (gl b ((x + 1) % 5 * 5 + y)))) := by unfold fO2; rw [fold_succ]; rfl
theorem rM_succ (n : Nat) (o : L64) (k : Nat) : rM n o (k + 1) = rM n o k ^^^ (BitVec.ofNat 64 (lf (k + 7 * n) % 2) <<< (2 ^ k - 1)) := by unfold rM; rw [fold_succ]; rfl
theorem turns_lt : ∀ i : Fin 25, turns.getD i.1 0 < 64 := by decide +kernel

/-- The blocks of a Round. -/
structure RR (w wr : World) (s a b : List L64) : Prop where
  h2 : RowL wr w.heap.size 28 s
  h4 : RowL wr (w.heap.size + 1) 28 z25
  h5 : RowL wr (w.heap.size + 1 + 1) 79 a
  h6 : RowL wr (w.heap.size + 1 + 1 + 1) 79 b
  kk : Keep (fun _ => False) w wr

section
variable {w wr wr' : World} {s a b : List L64}
theorem RR.drew (h : RR w wr s a b) : RR w wr.drew s a b := ⟨h.h2, h.h4, h.h5, h.h6, h.kk.drew⟩
theorem RR.setA (h : RR w wr s a b) (i : Nat) (v : L64) : RR w (wr.setCell ⟨w.heap.size + 1 + 1, i, none⟩ (.int .u64 (v.toNat : Int))) s (a.set i v) b :=
  ⟨h.h2.other _ _ (by dsimp only; omega), h.h4.other _ _ (by dsimp only; omega), h.h5.set _ _, h.h6.other _ _ (by dsimp only; omega), h.kk.setCell (.inr (by dsimp only; omega)) _⟩
theorem RR.setB (h : RR w wr s a b) (i : Nat) (v : L64) : RR w (wr.setCell ⟨w.heap.size + 1 + 1 + 1, i, none⟩ (.int .u64 (v.toNat : Int))) s a (b.set i v) :=
  ⟨h.h2.other _ _ (by dsimp only; omega), h.h4.other _ _ (by dsimp only; omega), h.h5.other _ _ (by dsimp only; omega), h.h6.set _ _, h.kk.setCell (.inr (by dsimp only; omega)) _⟩
theorem RR.else (h : RR w wr s a b) {p : Addr} (hp : w.heap.size + 1 + 1 + 1 < p.block) (v : Value) : RR w (wr.setCell p v) s a b :=
  ⟨h.h2.other _ _ (by omega), h.h4.other _ _ (by omega), h.h5.other _ _ (by omega), h.h6.other _ _ (by omega), h.kk.setCell (.inr (by omega)) _⟩
theorem RR.elseRow (h : RR w wr s a b) {g : Nat} (hp : w.heap.size + 1 + 1 + 1 < g) (cs : Array Value) : RR w (wr.setRow g cs) s a b :=
  ⟨h.h2.otherRow _ _ (by omega), h.h4.otherRow _ _ (by omega), h.h5.otherRow _ _ (by omega), h.h6.otherRow _ _ (by omega), h.kk.setRow (by omega) _⟩
theorem RR.keep (h : RR w wr s a b) (k : Keep (fun _ => False) wr wr') : RR w wr' s a b :=
  ⟨h.h2.keep k (fun h => h), h.h4.keep k (fun h => h), h.h5.keep k (fun h => h), h.h6.keep k (fun h => h), h.kk.trans k⟩
theorem RR.lt (h : RR w wr s a b) : w.heap.size + 1 + 1 + 1 < wr.heap.size := h.h6.lt
end

theorem boxes4 (w : World) (s : List L64) :
    RR w ((((w.alloc (.cells (stv s).toArray 28)).alloc (.cells (stv z25).toArray 28)).alloc (.cells (stv z25).toArray 79)).alloc (.cells (stv z25).toArray 79)) s z25 z25 := by
  obtain ⟨q1, q2, q3, kk⟩ := boxes3 w s z25 z25 28 28 79
  have e4 := RowV.mk (w := ((w.alloc (.cells (stv s).toArray 28)).alloc (.cells (stv z25).toArray 28)).alloc (.cells (stv z25).toArray 79)) 79 (stv z25)
  rw [World.size_alloc, World.size_alloc, World.size_alloc] at e4
  have k1 := (Keep.refl (fun _ => False) (((w.alloc (.cells (stv s).toArray 28)).alloc (.cells (stv z25).toArray 28)).alloc (.cells (stv z25).toArray 79))).alloc (.cells (stv z25).toArray 79)
  exact ⟨q1.keep k1 (fun h => h), q2.keep k1 (fun h => h), q3.keep k1 (fun h => h), e4, kk.trans k1⟩

set_option maxRecDepth 100000 in
set_option maxHeartbeats 2000000 in
theorem rround_out (s : List L64) (hs : s.length = 25) (n : Int) (hn : n < 0 ∨ 23 < n) (w : World) :
    Calls Try.prog 46 #[.agg (stv s).toArray, .int .i64 n] w fun e w' => e = .returned (.agg (stv s).toArray) ∧ Keep (fun _ => False) w w' := by
  obtain ⟨q1, q2, kk⟩ := boxes2 w s z25 28 28
  have q1 := hid q1
  have q2 := hid q2
  have kk := hid kk
  rcases (by omega : n < 0 ∨ (¬ n < 0 ∧ 23 < n)) with h | ⟨h, h'⟩
  all_goals
    go_enter Try.func46, Try.ntmps46
    go_wp2_with (first | ((with_reducible refine wpList_ld (.tmp 2) rfl rfl _ rfl s hs ?_ ?_); exact q1.out) | ((with_reducible refine wpList_st (.tmp 4) (.tmp 23) rfl rfl _ rfl s hs rfl z25 rfl ?_ ?_); exact q2.out))
    exact bodyPost_ret (res_cell (p := 4) (g := w.heap.size + 1) (s := s) rfl _ _ hs rfl q2.out.row) rfl ⟨rfl, kk.out.setRow (by omega) _⟩

set_option maxRecDepth 100000 in
set_option maxHeartbeats 8000000 in
theorem rround_in (s : List L64) (hs : s.length = 25) (n : Nat) (hn : n < 24) (w : World) :
    Calls Try.prog 46 #[.agg (stv s).toArray, .int .i64 (n : Int)] w fun e w' => e = .returned (.agg (stv (rrnd s n)).toArray) ∧ Keep (fun _ => False) w w' := by
  have q := boxes4 w s
  have Q1 := hid q.h5
  have Q2 := hid (q.h6.otherRow (w.heap.size + 1 + 1) (stv z25).toArray (by omega))
  have q' : RR w (World.setRow _ (w.heap.size + 1 + 1) (stv z25).toArray) s z25 z25 := ⟨q.h2.otherRow _ _ (by omega), q.h4.otherRow _ _ (by omega), q.h5.row, q.h6.otherRow _ _ (by omega), q.kk.setRow (by omega) _⟩
  have q2 : RR w (World.setRow _ (w.heap.size + 1 + 1 + 1) (stv z25).toArray) s z25 z25 := ⟨q'.h2.otherRow _ _ (by omega), q'.h4.otherRow _ _ (by omega), q'.h5.otherRow _ _ (by omega), q'.h6.row, q'.kk.setRow (by omega) _⟩
  have R0 := hid q2
  have h0 : (0 : Int) ≤ n := by omega
  have h1 : (n : Int) ≤ 23 := by omega
  clear q q' q2
  go_enter Try.func46, Try.ntmps46
  go_wp2_with (first | (with_reducible refine wpList_bd built55 rfl rfl ?_) | ((with_reducible refine wpList_stV 79 25 Try.infoA (.tmp 5) (.tmp 24) rfl rfl _ rfl (stv z25) stv_z25 (stv_one _) rfl (stv z25) stv_z25 79 ?_ ?_); exact Q1.out) | ((with_reducible refine wpList_stV 79 25 Try.infoA (.tmp 6) (.tmp 25) rfl rfl _ rfl (stv z25) stv_z25 (stv_one _) rfl (stv z25) stv_z25 79 ?_ ?_); exact Q2.out))
  clear Q1 Q2
  go_loopw [7] (fun x wr => ∃ (x' : Nat) (a : List L64), x' ≤ 5 ∧ x = .int .i64 x' ∧ Is (fA1 s x') a ∧ a.length = 25 ∧ RR w wr s a z25) (fun x _ => 5 - (intOf x).toNat)
  case atStart => exact ⟨0, z25, by omega, rfl, ⟨rfl⟩, rfl, R0.out⟩
  case round =>
    obtain ⟨x, a, hx, rfl, hI, hl, hR⟩ := hrel
    clear R0
    have R := hid hR
    clear hR
    by_cases hlt : x < 5
    · have hx1 : (x : Int) < 5 := by omega
      have hx0 : (0 : Int) ≤ x := by omega
      go_wp2_with fail
      go_loopw [8] (fun y wr => ∃ (y' : Nat) (a' : List L64), y' ≤ 5 ∧ y = .int .i64 y' ∧ Is (fA2 s x a y') a' ∧ a'.length = 25 ∧ RR w wr s a' z25) (fun y _ => 5 - (intOf y).toNat)
      case atStart => exact ⟨0, a, by omega, rfl, ⟨rfl⟩, hl, R.out⟩
      case round =>
        obtain ⟨y, a1, hy, rfl, hI1, hl1, hR⟩ := hrel
        clear R
        have R := hid hR
        clear hR
        by_cases hlt2 : y < 5
        · have hy1 : (y : Int) < 5 := by omega
          have hy0 : (0 : Int) ≤ y := by omega
          obtain ⟨y5, hy5⟩ : ∃ y5, 5 * y = y5 := ⟨_, rfl⟩
          obtain ⟨r, hr⟩ : ∃ r, x + y5 = r := ⟨_, rfl⟩
          have e1 : IntKind.i64.wrap (5 * (y : Int)) = (y5 : Int) := by rw [wrap64_in _ (by omega) (by omega)]; omega
          have e2 : IntKind.i64.wrap ((x : Int) + (y5 : Int)) = (r : Int) := by rw [wrap64_in _ (by omega) (by omega)]; omega
          have r0 : (0 : Int) ≤ r := by omega
          have r1 : (r : Int) < 25 := by omega
          have c1 := R.out.h2.cell r (by omega)
          have c2 := R.out.h5.cell (x * 5 + y) (by omega)
          have f2 := R.out.h5.fro (x * 5 + y)
          have HR' : Is ((fA2 s x a y).set (x * 5 + y) (gl s (x + 5 * y))) (a1.set (x * 5 + y) (gl s r)) := ⟨by rw [hI1.eq, hy5, hr]⟩
          have R2 := hid (R.out.drew.setA (x * 5 + y) (gl s r))
          have hl2 : (a1.set (x * 5 + y) (gl s r)).length = 25 := by rw [List.length_set, hl1]
          clear hy5 hr
          go_wp2_with fail
          refine wp_region_text [0,0,0,0,0,0,0,0,0,0,3] (fun W => W.cell? ⟨w.heap.size, r, none⟩ = some (.int .u64 ((gl s r).toNat : Int))) (by kernel_rfl) (by kernel_rfl) c1 ?_
          repeat (first
            | (refine' wpT_calm (v := _) (by rfl) (fun W hW => ?_) ?_; rotate_left
               · ((try dsimp only at hW); go_simp; first | done | rfl)
               simp only [Act.put, List.setIfInBounds_toArray, List.set_cons_zero, List.set_cons_succ])
            | (refine' wpT_reads (v := _) (by rfl) ?_ ?_; rotate_left
               · (go_simp; first | done | rfl)
               simp only [Act.put, List.setIfInBounds_toArray, List.set_cons_zero, List.set_cons_succ])
            | (refine wpT_skip (by rfl) rfl ?_; simp only [Act.put, List.setIfInBounds_toArray, List.set_cons_zero, List.set_cons_succ])
            | (refine wpT_does (by rfl) (fun K hK => ?_); go_simp; refine hK _ _ ?_ ?_
               · (trivial)
               clear hK K; try simp only [Act.put, List.setIfInBounds_toArray, List.set_cons_zero, List.set_cons_succ])
            | (refine wpT_last (by rfl) (fun K hK => ?_); go_simp; refine hK _ _ ?_; clear hK K)
            | (refine wpT_nil ?_))
          obtain ⟨a2, ha2⟩ : ∃ a2, a1.set (x * 5 + y) (gl s r) = a2 := ⟨_, rfl⟩
          rw [ha2] at HR' R2 hl2
          clear ha2 R c1 c2 f2 e1 e2 hI1
          go_wp2_with fail
          go_loopw [9] (fun k wr => ∃ (k' : Nat) (a' : List L64), k' ≤ 5 ∧ k = .int .i64 k' ∧ Is (fA3 s x y ((fA2 s x a y).set (x * 5 + y) (gl s (x + 5 * y))) k') a' ∧ a'.length = 25 ∧ RR w wr s a' z25) (fun k _ => 5 - (intOf k).toNat)
          case atStart => exact ⟨0, a2, by omega, rfl, HR', hl2, R2.out⟩
          case round =>
            obtain ⟨k, a3, hk, rfl, hI3, hl3, hR⟩ := hrel
            clear R2 hl2
            have R := hid hR
            clear hR
            by_cases hlt3 : k < 5
            · have hk1 : (k : Int) < 5 := by omega
              have hk0 : (0 : Int) ≤ k := by omega
              obtain ⟨x4, hx4⟩ : ∃ x4, x + 4 = x4 := ⟨_, rfl⟩
              obtain ⟨x1, hx1'⟩ : ∃ x1, x + 1 = x1 := ⟨_, rfl⟩
              obtain ⟨pm, hpm⟩ : ∃ pm, x4 % 5 = pm := ⟨_, rfl⟩
              obtain ⟨qm, hqm⟩ : ∃ qm, x1 % 5 = qm := ⟨_, rfl⟩
              obtain ⟨k5, hk5⟩ : ∃ k5, 5 * k = k5 := ⟨_, rfl⟩
              obtain ⟨p, hp⟩ : ∃ p, pm + k5 = p := ⟨_, rfl⟩
              obtain ⟨q, hq⟩ : ∃ q, qm + k5 = q := ⟨_, rfl⟩
              have e1 : IntKind.i64.wrap ((x : Int) + 4) = (x4 : Int) := by rw [wrap64_in _ (by omega) (by omega)]; omega
              have e2 : (x4 : Int).tmod 5 = (pm : Int) := by rw [Int.tmod_eq_emod_of_nonneg (by omega)]; omega
              have e3 : IntKind.i64.wrap (5 * (k : Int)) = (k5 : Int) := by rw [wrap64_in _ (by omega) (by omega)]; omega
              have e4 : IntKind.i64.wrap ((pm : Int) + (k5 : Int)) = (p : Int) := by rw [wrap64_in _ (by omega) (by omega)]; omega
              have e5 : IntKind.i64.wrap ((x : Int) + 1) = (x1 : Int) := by rw [wrap64_in _ (by omega) (by omega)]; omega
              have e6 : (x1 : Int).tmod 5 = (qm : Int) := by rw [Int.tmod_eq_emod_of_nonneg (by omega)]; omega
              have e7 : IntKind.i64.wrap ((qm : Int) + (k5 : Int)) = (q : Int) := by rw [wrap64_in _ (by omega) (by omega)]; omega
              have p0 : (0 : Int) ≤ p := by omega
              have p1 : (p : Int) < 25 := by omega
              have q0 : (0 : Int) ≤ q := by omega
              have q1 : (q : Int) < 25 := by omega
              have c1 := R.out.h2.cell p (by omega)
              have c2 := R.out.h2.cell q (by omega)
              have c3 := R.out.h5.cell (x * 5 + y) (by omega)
              have f3 := R.out.h5.fro (x * 5 + y)
              have HN : Is (fA3 s x y ((fA2 s x a y).set (x * 5 + y) (gl s (x + 5 * y))) (k + 1)) (a3.set (x * 5 + y) (gl a3 (x * 5 + y) ^^^ gl s p ^^^ rot (gl s q) 1)) := ⟨by rw [fA3_succ, hI3.eq, hx4, hx1', hpm, hqm, hk5, hp, hq]⟩
              have R2 := hid (R.out.drew.setA (x * 5 + y) (gl a3 (x * 5 + y) ^^^ gl s p ^^^ rot (gl s q) 1))
              have hln : (a3.set (x * 5 + y) (gl a3 (x * 5 + y) ^^^ gl s p ^^^ rot (gl s q) 1)).length = 25 := by rw [List.length_set, hl3]
              have X1 := hid (xor_val (gl a3 (x * 5 + y)) (gl s p))
              have X2 := hid (xor_val (gl a3 (x * 5 + y) ^^^ gl s p) (rot (gl s q) 1))
              clear hx4 hx1' hpm hqm hk5 hp hq hI3 hln
              go_wp2_with fail
              refine wp_region_text [0,0,0,0,0,0,0,0,0,0,0,0,0,0,0,0,0,0,0,0,0,0,0,0,2,0,0,0,3] (fun W => W.cell? ⟨w.heap.size, p, none⟩ = some (.int .u64 ((gl s p).toNat : Int)) ∧ W.cell? ⟨w.heap.size, q, none⟩ = some (.int .u64 ((gl s q).toNat : Int)) ∧ W.cell? ⟨w.heap.size + 1 + 1, x * 5 + y, none⟩ = some (.int .u64 ((gl a3 (x * 5 + y)).toNat : Int))) (by kernel_rfl) (by kernel_rfl) ⟨c1, c2, c3⟩ ?_
              repeat (first
                | (refine' wpT_calm (v := _) (by rfl) (fun W hW => ?_) ?_; rotate_left
                   · ((try dsimp only at hW); go_simp; first | done | rfl)
                   simp only [Act.put, List.setIfInBounds_toArray, List.set_cons_zero, List.set_cons_succ])
                | (refine' wpT_reads (v := _) (by rfl) ?_ ?_; rotate_left
                   · (go_simp; first | done | rfl)
                   simp only [Act.put, List.setIfInBounds_toArray, List.set_cons_zero, List.set_cons_succ])
                | (refine wpT_skip (by rfl) rfl ?_; simp only [Act.put, List.setIfInBounds_toArray, List.set_cons_zero, List.set_cons_succ])
                | (refine wpT_does (by rfl) (fun K hK => ?_); go_simp; refine hK _ _ ?_ ?_
                   · (trivial)
                   clear hK K; try simp only [Act.put, List.setIfInBounds_toArray, List.set_cons_zero, List.set_cons_succ])
                | (refine wpT_last (by rfl) (fun K hK => ?_); go_simp; refine hK _ _ ?_; clear hK K)
                | (refine wpT_nil ?_))
              refine wpT_does (by rfl) (fun K hK => ?_)
              go_simp
              refine (turned_any _ 1 (by decide) _).mono ?_
              rintro _ _ ⟨rfl, rfl⟩
              refine hK _ _ ⟨c1, c2, c3⟩ ?_
              clear hK K
              try simp only [Act.put, List.setIfInBounds_toArray, List.set_cons_zero, List.set_cons_succ]
              repeat (first
                | (refine' wpT_calm (v := _) (by rfl) (fun W hW => ?_) ?_; rotate_left
                   · ((try dsimp only at hW); go_simp; first | done | rfl)
                   simp only [Act.put, List.setIfInBounds_toArray, List.set_cons_zero, List.set_cons_succ])
                | (refine' wpT_reads (v := _) (by rfl) ?_ ?_; rotate_left
                   · (go_simp; first | done | rfl)
                   simp only [Act.put, List.setIfInBounds_toArray, List.set_cons_zero, List.set_cons_succ])
                | (refine wpT_skip (by rfl) rfl ?_; simp only [Act.put, List.setIfInBounds_toArray, List.set_cons_zero, List.set_cons_succ])
                | (refine wpT_does (by rfl) (fun K hK => ?_); go_simp; refine hK _ _ ?_ ?_
                   · (trivial)
                   clear hK K; try simp only [Act.put, List.setIfInBounds_toArray, List.set_cons_zero, List.set_cons_succ])
                | (refine wpT_last (by rfl) (fun K hK => ?_); go_simp; refine hK _ _ ?_; clear hK K)
                | (refine wpT_nil ?_))
              go_wp2
              go_roundw
              case rel => exact ⟨k + 1, _, by omega, by go_num, HN, by rw [List.length_set, hl3], by rw [X1.out, X2.out]; exact R2.out⟩
              case measure => simp [intOf]; omega
            · have hk5 : k = 5 := by omega
              have HN : Is (fA2 s x a (y + 1)) a3 := ⟨by rw [fA2_succ, ← hI3.eq, hk5]⟩
              clear hI3 hk5
              go_wp2
              go_roundw
              case rel => exact ⟨y + 1, a3, by omega, by go_num, HN, hl3, R.out⟩
              case measure => simp [intOf]; omega
        · have hy5 : y = 5 := by omega
          have HN : Is (fA1 s (x + 1)) a1 := ⟨by rw [fA1_succ, ← hI1.eq, hy5, hI.eq]⟩
          clear hI1 hy5
          go_wp2
          go_roundw
          case rel => exact ⟨x + 1, a1, by omega, by go_num, HN, hl1, R.out⟩
          case measure => simp [intOf]; omega
    · have hx5 : x = 5 := by omega
      have HA : Is (rA s) a := ⟨by rw [← hI.eq, hx5]; rfl⟩
      clear hI hx5 hx
      go_wp2_with fail
      refine (turns_any _).mono ?_
      rintro _ W1 ⟨l, HL, hll, rfl, K1⟩
      have R1 := R.out.keep K1
      clear R K1
      obtain ⟨bt, hbt⟩ : ∃ bt, W1.heap.size = bt := ⟨_, rfl⟩
      have hb4 : w.heap.size + 1 + 1 + 1 < bt := by rw [← hbt]; exact R1.lt
      have R2 := R1.keep ((Keep.refl (fun _ => False) W1).alloc (.cells (ntv zn).toArray 82))
      have t1 := RowV.mk (w := W1) 82 (ntv zn)
      rw [hbt] at t1
      have R3 := hid (R2.elseRow hb4 (ntv l).toArray)
      have t2 := hid (t1.row (vs' := ntv l))
      have t1 := hid t1
      have hl2 : (ntv l).length = 25 := by rw [ntv_len, hll]
      clear R1 R2
      go_wp2_with ((with_reducible refine wpList_stV 82 25 Try.infoT (.tmp 10) (.tmp 76) rfl rfl _ rfl (ntv l) hl2 (ntv_one _) rfl (ntv zn) ntv_zn 82 ?_ ?_); exact t1.out)
      try rw [hbt]
      clear t1 hbt
      go_loopw [11] (fun x wr => ∃ (x' : Nat) (b : List L64), x' ≤ 5 ∧ x = .int .i64 x' ∧ Is (fB1 l a x') b ∧ b.length = 25 ∧ RR w wr s a b ∧ RowV wr bt 82 (ntv l)) (fun x _ => 5 - (intOf x).toNat)
      case atStart => exact ⟨0, z25, by omega, rfl, ⟨rfl⟩, rfl, R3.out, t2.out⟩
      case round =>
        obtain ⟨x, b, hx, rfl, hI, hlb, hR, hT⟩ := hrel
        clear R3 t2
        have R := hid hR
        have T := hid hT
        clear hR hT
        by_cases hlt : x < 5
        · have hx1 : (x : Int) < 5 := by omega
          have hx0 : (0 : Int) ≤ x := by omega
          go_wp2_with fail
          go_loopw [12] (fun y wr => ∃ (y' : Nat) (b' : List L64), y' ≤ 5 ∧ y = .int .i64 y' ∧ Is (fB2 l a x b y') b' ∧ b'.length = 25 ∧ RR w wr s a b' ∧ RowV wr bt 82 (ntv l)) (fun y _ => 5 - (intOf y).toNat)
          case atStart => exact ⟨0, b, by omega, rfl, ⟨rfl⟩, hlb, R.out, T.out⟩
          case round =>
            obtain ⟨y, b1, hy, rfl, hI1, hl1, hR, hT⟩ := hrel
            clear R T
            have R := hid hR
            have T := hid hT
            clear hR hT
            by_cases hlt2 : y < 5
            · have hy1 : (y : Int) < 5 := by omega
              have hy0 : (0 : Int) ≤ y := by omega
              obtain ⟨xx, hxx⟩ : ∃ xx, 2 * x = xx := ⟨_, rfl⟩
              obtain ⟨yy, hyy⟩ : ∃ yy, 3 * y = yy := ⟨_, rfl⟩
              obtain ⟨zz, hzz⟩ : ∃ zz, xx + yy = zz := ⟨_, rfl⟩
              obtain ⟨z, hz⟩ : ∃ z, zz % 5 = z := ⟨_, rfl⟩
              have e1 : IntKind.i64.wrap (2 * (x : Int)) = (xx : Int) := by rw [wrap64_in _ (by omega) (by omega)]; omega
              have e2 : IntKind.i64.wrap (3 * (y : Int)) = (yy : Int) := by rw [wrap64_in _ (by omega) (by omega)]; omega
              have e3 : IntKind.i64.wrap ((xx : Int) + (yy : Int)) = (zz : Int) := by rw [wrap64_in _ (by omega) (by omega)]; omega
              have e4 : (zz : Int).tmod 5 = (z : Int) := by rw [Int.tmod_eq_emod_of_nonneg (by omega)]; omega
              have z0 : (0 : Int) ≤ z := by omega
              have z1 : (z : Int) < 5 := by omega
              have hn64 : l.getD (x * 5 + y) 0 < 64 := by rw [← HL.eq]; exact turns_lt ⟨x * 5 + y, by omega⟩
              have c1 := R.out.h5.cell (x * 5 + y) (by omega)
              have c2 := T.out.cell (x * 5 + y) (by omega)
              have c3 := R.out.h6.cell (y * 5 + z) (by omega)
              have f3 := R.out.h6.fro (y * 5 + z)
              have HN : Is (fB2 l a x b (y + 1)) (b1.set (y * 5 + z) (rot (gl a (x * 5 + y)) (l.getD (x * 5 + y) 0))) := ⟨by rw [fB2_succ, hI1.eq, hxx, hyy, hzz, hz]⟩
              have R2 := R.out.drew.setB (y * 5 + z) (rot (gl a (x * 5 + y)) (l.getD (x * 5 + y) 0))
              obtain ⟨m, hm⟩ : ∃ m, l.getD (x * 5 + y) 0 = m := ⟨_, rfl⟩
              rw [hm] at hn64 c2 HN R2
              have R2 := hid R2
              have T2 := hid (T.out : RowV _ _ _ _)
              clear hxx hyy hzz hz hI1 hm
              go_wp2_with fail
              refine wp_region_text [0,0,0,0,0,0,0,0,0,0,0,0,0,0,0,0,0,2,0,0,3] (fun W => W.cell? ⟨w.heap.size + 1 + 1, x * 5 + y, none⟩ = some (.int .u64 ((gl a (x * 5 + y)).toNat : Int)) ∧ W.cell? ⟨bt, x * 5 + y, none⟩ = some (.int .i64 (m : Int)) ∧ W.cell? ⟨w.heap.size + 1 + 1 + 1, y * 5 + z, none⟩ = some (.int .u64 ((gl b1 (y * 5 + z)).toNat : Int))) (by kernel_rfl) (by kernel_rfl) ⟨c1, c2, c3⟩ ?_
              repeat (first
                | (refine' wpT_calm (v := _) (by rfl) (fun W hW => ?_) ?_; rotate_left
                   · ((try dsimp only at hW); go_simp; first | done | rfl)
                   simp only [Act.put, List.setIfInBounds_toArray, List.set_cons_zero, List.set_cons_succ])
                | (refine' wpT_reads (v := _) (by rfl) ?_ ?_; rotate_left
                   · (go_simp; first | done | rfl)
                   simp only [Act.put, List.setIfInBounds_toArray, List.set_cons_zero, List.set_cons_succ])
                | (refine wpT_skip (by rfl) rfl ?_; simp only [Act.put, List.setIfInBounds_toArray, List.set_cons_zero, List.set_cons_succ])
                | (refine wpT_does (by rfl) (fun K hK => ?_); go_simp; refine hK _ _ ?_ ?_
                   · (trivial)
                   clear hK K; try simp only [Act.put, List.setIfInBounds_toArray, List.set_cons_zero, List.set_cons_succ])
                | (refine wpT_last (by rfl) (fun K hK => ?_); go_simp; refine hK _ _ ?_; clear hK K)
                | (refine wpT_nil ?_))
              refine wpT_does (by rfl) (fun K hK => ?_)
              go_simp
              refine (turned_any _ m hn64 _).mono ?_
              rintro _ _ ⟨rfl, rfl⟩
              refine hK _ _ ⟨c1, c2, c3⟩ ?_
              clear hK K
              try simp only [Act.put, List.setIfInBounds_toArray, List.set_cons_zero, List.set_cons_succ]
              repeat (first
                | (refine' wpT_calm (v := _) (by rfl) (fun W hW => ?_) ?_; rotate_left
                   · ((try dsimp only at hW); go_simp; first | done | rfl)
                   simp only [Act.put, List.setIfInBounds_toArray, List.set_cons_zero, List.set_cons_succ])
                | (refine' wpT_reads (v := _) (by rfl) ?_ ?_; rotate_left
                   · (go_simp; first | done | rfl)
                   simp only [Act.put, List.setIfInBounds_toArray, List.set_cons_zero, List.set_cons_succ])
                | (refine wpT_skip (by rfl) rfl ?_; simp only [Act.put, List.setIfInBounds_toArray, List.set_cons_zero, List.set_cons_succ])
                | (refine wpT_does (by rfl) (fun K hK => ?_); go_simp; refine hK _ _ ?_ ?_
                   · (trivial)
                   clear hK K; try simp only [Act.put, List.setIfInBounds_toArray, List.set_cons_zero, List.set_cons_succ])
                | (refine wpT_last (by rfl) (fun K hK => ?_); go_simp; refine hK _ _ ?_; clear hK K)
                | (refine wpT_nil ?_))
              go_wp2
              go_roundw
              case rel => exact ⟨y + 1, _, by omega, by go_num, HN, by rw [List.length_set, hl1], R2.out, RowV.other (w := wr.drew) T2.out _ _ (by dsimp only; omega)⟩
              case measure => simp [intOf]; omega
            · have hy5 : y = 5 := by omega
              have HN : Is (fB1 l a (x + 1)) b1 := ⟨by rw [fB1_succ, ← hI1.eq, hy5, hI.eq]⟩
              clear hI1 hy5
              go_wp2
              go_roundw
              case rel => exact ⟨x + 1, b1, by omega, by go_num, HN, hl1, R.out, T.out⟩
              case measure => simp [intOf]; omega
        · have hx5 : x = 5 := by omega
          have HB : Is (rB a) b := ⟨by rw [← hI.eq, hx5, ← HL.eq]; rfl⟩
          have R4 := R.out
          clear hI hx5 hx T
          obtain ⟨bo, hbo⟩ : ∃ bo, wr.heap.size = bo := ⟨_, rfl⟩
          have hb5 : w.heap.size + 1 + 1 + 1 < bo := by rw [← hbo]; exact R4.lt
          have R5 := R4.keep ((Keep.refl (fun _ => False) wr).alloc (.cells (stv z25).toArray 28))
          have o1 : RowL (wr.alloc (.cells (stv z25).toArray 28)) wr.heap.size 28 z25 := heap_alloc_new wr _
          rw [hbo] at o1
          have R6 := hid (R5.elseRow hb5 (stv z25).toArray)
          have o2 := hid (o1.row (s' := z25))
          have o1 := hid o1
          clear R R4 R5
          go_wp2_with (first | (with_reducible refine wpList_bd built37 rfl rfl ?_) | ((with_reducible refine wpList_stV 28 25 Try.infoS (.tmp 13) (.tmp 105) rfl rfl _ rfl (stv z25) stv_z25 (stv_one _) rfl (stv z25) stv_z25 28 ?_ ?_); exact o1.out))
          try rw [hbo]
          clear o1 hbo
          go_loopw [14] (fun x wr => ∃ (x' : Nat) (o : List L64), x' ≤ 5 ∧ x = .int .i64 x' ∧ Is (fO1 b x') o ∧ o.length = 25 ∧ RR w wr s a b ∧ RowL wr bo 28 o) (fun x _ => 5 - (intOf x).toNat)
          case atStart => exact ⟨0, z25, by omega, rfl, ⟨rfl⟩, rfl, R6.out, o2.out⟩
          case round =>
            obtain ⟨x, o, hx, rfl, hI, hlo, hR, hO⟩ := hrel
            clear R6 o2
            have R := hid hR
            have O := hid hO
            clear hR hO
            by_cases hlt : x < 5
            · have hx1 : (x : Int) < 5 := by omega
              have hx0 : (0 : Int) ≤ x := by omega
              go_wp2_with fail
              go_loopw [15] (fun y wr => ∃ (y' : Nat) (o' : List L64), y' ≤ 5 ∧ y = .int .i64 y' ∧ Is (fO2 b x o y') o' ∧ o'.length = 25 ∧ RR w wr s a b ∧ RowL wr bo 28 o') (fun y _ => 5 - (intOf y).toNat)
              case atStart => exact ⟨0, o, by omega, rfl, ⟨rfl⟩, hlo, R.out, O.out⟩
              case round =>
                obtain ⟨y, o1, hy, rfl, hI1, hl1, hR, hO⟩ := hrel
                clear R O
                have R := hid hR
                have O := hid hO
                clear hR hO
                by_cases hlt2 : y < 5
                · have hy1 : (y : Int) < 5 := by omega
                  have hy0 : (0 : Int) ≤ y := by omega
                  obtain ⟨y5, hy5⟩ : ∃ y5, 5 * y = y5 := ⟨_, rfl⟩
                  obtain ⟨r, hr⟩ : ∃ r, x + y5 = r := ⟨_, rfl⟩
                  obtain ⟨x1, hx1'⟩ : ∃ x1, x + 1 = x1 := ⟨_, rfl⟩
                  obtain ⟨x2, hx2⟩ : ∃ x2, x + 2 = x2 := ⟨_, rfl⟩
                  obtain ⟨p, hp⟩ : ∃ p, x1 % 5 = p := ⟨_, rfl⟩
                  obtain ⟨q, hq⟩ : ∃ q, x2 % 5 = q := ⟨_, rfl⟩
                  have e1 : IntKind.i64.wrap (5 * (y : Int)) = (y5 : Int) := by rw [wrap64_in _ (by omega) (by omega)]; omega
                  have e2 : IntKind.i64.wrap ((x : Int) + (y5 : Int)) = (r : Int) := by rw [wrap64_in _ (by omega) (by omega)]; omega
                  have e3 : IntKind.i64.wrap ((x : Int) + 1) = (x1 : Int) := by rw [wrap64_in _ (by omega) (by omega)]; omega
                  have e4 : (x1 : Int).tmod 5 = (p : Int) := by rw [Int.tmod_eq_emod_of_nonneg (by omega)]; omega
                  have e5 : IntKind.i64.wrap ((x : Int) + 2) = (x2 : Int) := by rw [wrap64_in _ (by omega) (by omega)]; omega
                  have e6 : (x2 : Int).tmod 5 = (q : Int) := by rw [Int.tmod_eq_emod_of_nonneg (by omega)]; omega
                  have p0 : (0 : Int) ≤ p := by omega
                  have p1 : (p : Int) < 5 := by omega
                  have q0 : (0 : Int) ≤ q := by omega
                  have q1 : (q : Int) < 5 := by omega
                  have r0 : (0 : Int) ≤ r := by omega
                  have r1 : (r : Int) < 25 := by omega
                  have c1 := R.out.h6.cell (x * 5 + y) (by omega)
                  have c2 := R.out.h6.cell (p * 5 + y) (by omega)
                  have c3 := R.out.h6.cell (q * 5 + y) (by omega)
                  have c4 := O.out.cell r (by omega)
                  have f4 := O.out.fro r
                  have HN : Is (fO2 b x o (y + 1)) (o1.set r (gl b (x * 5 + y) ^^^ (gl b (q * 5 + y) &&& ~~~ (gl b (p * 5 + y))))) := ⟨by rw [fO2_succ, hI1.eq, hy5, hr, hx1', hx2, hp, hq]⟩
                  have R2 := hid (R.out.drew.else (p := ⟨bo, r, none⟩) hb5)
                  have O2 := hid (RowL.set (w := wr) O.out r (gl b (x * 5 + y) ^^^ (gl b (q * 5 + y) &&& ~~~ (gl b (p * 5 + y)))))
                  have X0 := hid (not_val (gl b (p * 5 + y)))
                  have X1 := hid ((and_val (~~~ (gl b (p * 5 + y))) (gl b (q * 5 + y))).trans (by rw [BitVec.and_comm]))
                  have X2 := hid (xor_val (gl b (x * 5 + y)) (gl b (q * 5 + y) &&& ~~~ (gl b (p * 5 + y))))
                  clear hy5 hr hx1' hx2 hp hq hI1
                  go_wp2_with fail
                  refine wp_region_text [0,0,0,0,0,0,0,0,0,0,0,0,0,0,0,0,0,0,0,0,0,0,0,0,0,0,0,3] (fun W => W.cell? ⟨w.heap.size + 1 + 1 + 1, x * 5 + y, none⟩ = some (.int .u64 ((gl b (x * 5 + y)).toNat : Int)) ∧ W.cell? ⟨w.heap.size + 1 + 1 + 1, p * 5 + y, none⟩ = some (.int .u64 ((gl b (p * 5 + y)).toNat : Int)) ∧ W.cell? ⟨w.heap.size + 1 + 1 + 1, q * 5 + y, none⟩ = some (.int .u64 ((gl b (q * 5 + y)).toNat : Int))) (by kernel_rfl) (by kernel_rfl) ⟨c1, c2, c3⟩ ?_
                  repeat (first
                    | (refine' wpT_calm (v := _) (by rfl) (fun W hW => ?_) ?_; rotate_left
                       · ((try dsimp only at hW); go_simp; first | done | rfl)
                       simp only [Act.put, List.setIfInBounds_toArray, List.set_cons_zero, List.set_cons_succ])
                    | (refine' wpT_reads (v := _) (by rfl) ?_ ?_; rotate_left
                       · (go_simp; first | done | rfl)
                       simp only [Act.put, List.setIfInBounds_toArray, List.set_cons_zero, List.set_cons_succ])
                    | (refine wpT_skip (by rfl) rfl ?_; simp only [Act.put, List.setIfInBounds_toArray, List.set_cons_zero, List.set_cons_succ])
                    | (refine wpT_does (by rfl) (fun K hK => ?_); go_simp; refine hK _ _ ?_ ?_
                       · (trivial)
                       clear hK K; try simp only [Act.put, List.setIfInBounds_toArray, List.set_cons_zero, List.set_cons_succ])
                    | (refine wpT_last (by rfl) (fun K hK => ?_); go_simp; refine hK _ _ ?_; clear hK K)
                    | (refine wpT_nil ?_))
                  go_wp2
                  go_roundw
                  case rel => exact ⟨y + 1, _, by omega, by go_num, HN, by rw [List.length_set, hl1], R2.out _, by rw [X0.out, X1.out, X2.out]; exact O2.out⟩
                  case measure => simp [intOf]; omega
                · have hy5 : y = 5 := by omega
                  have HN : Is (fO1 b (x + 1)) o1 := ⟨by rw [fO1_succ, ← hI1.eq, hy5, hI.eq]⟩
                  clear hI1 hy5
                  go_wp2
                  go_roundw
                  case rel => exact ⟨x + 1, o1, by omega, by go_num, HN, hl1, R.out, O.out⟩
                  case measure => simp [intOf]; omega
            · have hx5 : x = 5 := by omega
              have HO : Is (rO b) o := ⟨by rw [← hI.eq, hx5]; rfl⟩
              clear hI hx5 hx
              go_wp2_with fail
              have R9 := R.out
              have O9 := O.out
              rw [← set_self o] at O9
              have R9 := hid R9
              have O9 := hid O9
              clear R O
              go_loopw [16] (fun j wr => ∃ (j' : Nat) (v : L64), j' ≤ 7 ∧ j = .int .i64 j' ∧ IsL (rM n (gl o 0) j') v ∧ RR w wr s a b ∧ RowL wr bo 28 (o.set 0 v)) (fun j _ => 7 - (intOf j).toNat)
              case atStart => exact ⟨0, gl o 0, by omega, rfl, ⟨rfl⟩, R9.out, O9.out⟩
              case round =>
                obtain ⟨j, v, hj, rfl, hI, hR, hO⟩ := hrel
                clear R9 O9
                have R := hid hR
                have O := hid hO
                clear hR hO
                by_cases hlt : j < 7
                · obtain ⟨n7, hn7⟩ : ∃ n7, 7 * n = n7 := ⟨_, rfl⟩
                  obtain ⟨t, ht⟩ : ∃ t, j + n7 = t := ⟨_, rfl⟩
                  obtain ⟨bb, hbb⟩ : ∃ bb, lf t % 2 = bb := ⟨_, rfl⟩
                  obtain ⟨P, hP⟩ : ∃ P, 2 ^ j = P := ⟨_, rfl⟩
                  obtain ⟨m, hm⟩ : ∃ m, P - 1 = m := ⟨_, rfl⟩
                  have hP1 : 1 ≤ P ∧ P ≤ 64 := by rw [← hP]; rcases (by omega : j = 0 ∨ j = 1 ∨ j = 2 ∨ j = 3 ∨ j = 4 ∨ j = 5 ∨ j = 6) with rfl | rfl | rfl | rfl | rfl | rfl | rfl <;> decide
                  have e1 : IntKind.i64.wrap (7 * (n : Int)) = (n7 : Int) := by rw [wrap64_in _ (by omega) (by omega)]; omega
                  have e2 : IntKind.i64.wrap ((j : Int) + (n7 : Int)) = (t : Int) := by rw [wrap64_in _ (by omega) (by omega)]; omega
                  have e3 : IntKind.u64.wrap (j : Int) = (j : Int) := by rw [wrap_u64]; omega
                  have hb1 : bb ≤ 1 := by omega
                  obtain ⟨d, hd⟩ : ∃ d : L64, BitVec.ofNat 64 bb <<< m = d := ⟨_, rfl⟩
                  have e6 : IntKind.u64.wrap ((bb : Int) * 2 ^ min (IntKind.u64.wrap (IntKind.u64.wrap ((2 : Int) ^ j) - 1)).toNat 64) = (d.toNat : Int) := by
                    have w1 : IntKind.u64.wrap ((2 : Int) ^ j) = (P : Int) := by
                      have : ((2 : Int) ^ j) = (P : Int) := by rw [← hP]; norm_cast
                      rw [wrap_u64, this]; omega
                    have w2 : IntKind.u64.wrap ((P : Int) - 1) = (m : Int) := by rw [wrap_u64]; omega
                    rw [w1, w2, Int.toNat_natCast, Nat.min_eq_left (by omega : m ≤ 64), ← hd, one_shl bb m hb1 (by omega)]
                    have h2 : 2 ^ m ≤ 2 ^ 63 := Nat.pow_le_pow_right (by decide) (by omega)
                    obtain ⟨Q, hQ⟩ : ∃ Q, 2 ^ m = Q := ⟨_, rfl⟩
                    have hQi : ((2 : Int) ^ m) = (Q : Int) := by rw [← hQ]; norm_cast
                    rw [hQi, hQ, wrap_u64]
                    rw [hQ] at h2
                    rcases (by omega : bb = 0 ∨ bb = 1) with h | h
                    · rw [h]; simp
                    · rw [h, Nat.one_mul]; omega
                  have E6 := hid e6
                  have c1 := O.out.cell 0 (by rw [List.length_set]; omega)
                  have f1 := O.out.fro 0
                  rw [gl_set _ _ _ _ (by omega), if_pos rfl] at c1
                  have HN : IsL (rM n (gl o 0) (j + 1)) (v ^^^ d) := ⟨by rw [rM_succ, hI.eq, hn7, ht, hbb, hP, hm, hd]⟩
                  have X1 := hid (xor_val v d)
                  have R2 := hid (R.out.drew.else (p := ⟨bo, 0, none⟩) hb5)
                  have O2 := RowL.set (w := wr) O.out 0 (v ^^^ d)
                  rw [List.set_set] at O2
                  have O2 := hid O2
                  have BB := hid hbb
                  have ht2 : t ≤ 200 := by omega
                  have m0 : (0 : Int) ≤ (m : Int) := by omega
                  have j0 : (0 : Int) ≤ (j : Int) := by omega
                  have j7 : (j : Int) < 7 := by omega
                  clear hn7 ht hbb hP hm hd hI hP1 e6
                  go_wp2_with fail
                  refine wp_region_text [0,0,0,0,0,0,2,0,0,0,0,0,0,0,3] (fun W => W.cell? ⟨bo, 0, none⟩ = some (.int .u64 (v.toNat : Int))) (by kernel_rfl) (by kernel_rfl) c1 ?_
                  repeat (first
                    | (refine' wpT_calm (v := _) (by rfl) (fun W hW => ?_) ?_; rotate_left
                       · ((try dsimp only at hW); go_simp; first | done | rfl)
                       simp only [Act.put, List.setIfInBounds_toArray, List.set_cons_zero, List.set_cons_succ])
                    | (refine' wpT_reads (v := _) (by rfl) ?_ ?_; rotate_left
                       · (go_simp; first | done | rfl)
                       simp only [Act.put, List.setIfInBounds_toArray, List.set_cons_zero, List.set_cons_succ])
                    | (refine wpT_skip (by rfl) rfl ?_; simp only [Act.put, List.setIfInBounds_toArray, List.set_cons_zero, List.set_cons_succ])
                    | (refine wpT_does (by rfl) (fun K hK => ?_); go_simp; refine hK _ _ ?_ ?_
                       · (trivial)
                       clear hK K; try simp only [Act.put, List.setIfInBounds_toArray, List.set_cons_zero, List.set_cons_succ])
                    | (refine wpT_last (by rfl) (fun K hK => ?_); go_simp; refine hK _ _ ?_; clear hK K)
                    | (refine wpT_nil ?_))
                  refine wpT_does (by rfl) (fun K hK => ?_)
                  go_simp
                  refine (bit_any t ht2 _).mono ?_
                  rintro _ _ ⟨rfl, rfl⟩
                  rw [BB.out]
                  refine hK _ _ c1 ?_
                  clear hK K
                  try simp only [Act.put, List.setIfInBounds_toArray, List.set_cons_zero, List.set_cons_succ]
                  repeat (first
                    | (refine' wpT_calm (v := _) (by rfl) (fun W hW => ?_) ?_; rotate_left
                       · ((try dsimp only at hW); go_simp; first | done | rfl)
                       simp only [Act.put, List.setIfInBounds_toArray, List.set_cons_zero, List.set_cons_succ])
                    | (refine' wpT_reads (v := _) (by rfl) ?_ ?_; rotate_left
                       · (go_simp; first | done | rfl)
                       simp only [Act.put, List.setIfInBounds_toArray, List.set_cons_zero, List.set_cons_succ])
                    | (refine wpT_skip (by rfl) rfl ?_; simp only [Act.put, List.setIfInBounds_toArray, List.set_cons_zero, List.set_cons_succ])
                    | (refine wpT_does (by rfl) (fun K hK => ?_); go_simp; refine hK _ _ ?_ ?_
                       · (trivial)
                       clear hK K; try simp only [Act.put, List.setIfInBounds_toArray, List.set_cons_zero, List.set_cons_succ])
                    | (refine wpT_last (by rfl) (fun K hK => ?_); go_simp; refine hK _ _ ?_; clear hK K)
                    | (refine wpT_nil ?_))
                  go_wp2
                  go_roundw
                  case rel => exact ⟨j + 1, _, by omega, by go_num, HN, R2.out _, by rw [E6.out, X1.out]; exact O2.out⟩
                  case measure => simp [intOf]; omega
                · have hj7 : j = 7 := by omega
                  have HR : Is (rrnd s n) (o.set 0 v) := ⟨by unfold rrnd; rw [HA.eq, HB.eq, HO.eq, ← hj7, hI.eq]⟩
                  have hul : (o.set 0 v).length = 25 := by rw [List.length_set, hlo]
                  have h4 := hid R.out.h4
                  have k4 := hid R.out.kk
                  obtain ⟨u, hu⟩ : ∃ u, o.set 0 v = u := ⟨_, rfl⟩
                  rw [hu] at O hul HR
                  clear hI hj7 hj hu HA HB HO R
                  go_wp2_with (first | (with_reducible refine wpList_ld (.tmp 13) rfl rfl _ rfl u hul O.out ?_) | (with_reducible refine wpList_st (.tmp 4) (.tmp 159) rfl rfl _ rfl u hul rfl z25 rfl h4.out ?_))
                  refine bodyPost_ret (res_cell (p := 4) (g := w.heap.size + 1) (s := u) rfl _ _ hul rfl h4.out.row) rfl ⟨?_, k4.out.setRow (by omega) _⟩
                  rw [HR.eq]
end Go.Proofs.Ytpijnpapmdnceaa

namespace Go.Proofs.Ytpijnpapmdnceaa
open Go Go.RowKit

theorem rrounds_any (s : List L64) (hs : s.length = 25) (n : Nat) (hn : n < 24) (w : World) :
    Calls Try.prog 46 #[.agg (stv s).toArray, .int .i64 (n : Int)] w fun e w' => e = .returned (.agg (stv (rnd s n)).toArray) ∧ Keep (fun _ => False) w w' := by
  rw [← rrnd_eq hs n hn]
  exact rround_in s hs n hn w

set_option maxRecDepth 10000 in
set_option maxHeartbeats 2000000 in
theorem rperm_any (s : List L64) (hs : s.length = 25) (w : World) :
    Calls Try.prog 35 #[.agg (stv s).toArray] w fun e w' => e = .returned (.agg (stv (perm s)).toArray) ∧ Keep (fun _ => False) w w' := by
  obtain ⟨q1, q2, kk⟩ := boxes2 w s z25 28 28
  have q1 := hid q1
  have q2 := hid q2
  have kk := hid kk
  go_enter Try.func35, Try.ntmps35
  go_wp2_with fail
  go_loopw [3] (fun i wr => ∃ k : Nat, k ≤ 24 ∧ i = .int .i64 k ∧ RowL wr w.heap.size 28 (rnds s k) ∧ RowL wr (w.heap.size + 1) 28 z25 ∧ Keep (fun _ => False) w wr) (fun i _ => 24 - (intOf i).toNat)
  case atStart => exact ⟨0, Nat.zero_le _, rfl, q1.out, q2.out, kk.out⟩
  case round =>
    obtain ⟨k, hk, rfl, h1, h2, hK⟩ := hrel
    have H1 := hid h1
    have H2 := hid h2
    have HK := hid hK
    have hl := rnds_len hs k
    clear q1 q2 kk h1 h2 hK
    by_cases hlt : k < 24
    · have TS := rnds_succ s k
      obtain ⟨u, hu⟩ : ∃ u, rnds s k = u := ⟨_, rfl⟩
      rw [hu] at H1 hl TS
      have HR : Is (rnds s (k + 1)) (rnd u k) := ⟨TS⟩
      clear hu TS
      go_wp2_with ((with_reducible refine wpList_ld (.tmp 1) rfl rfl _ rfl u hl H1.out ?_))
      refine (rrounds_any u hl k hlt _).mono ?_
      rintro _ W1 ⟨rfl, K1⟩
      have q1 := hid (H1.out.keep K1 (fun h => h))
      have q2 := hid (H2.out.keep K1 (fun h => h))
      have kk := hid (HK.out.trans K1)
      have hrl := rnd_len u k
      obtain ⟨v, hv⟩ : ∃ v, rnd u k = v := ⟨_, rfl⟩
      rw [hv] at hrl HR ⊢
      clear K1 H1 H2 HK hv
      go_wp2_with (with_reducible refine wpList_st (.tmp 1) (.tmp 10) rfl rfl _ rfl v hrl rfl u hl q1.out ?_)
      go_roundw
      case rel => exact ⟨k + 1, by omega, by go_num, by rw [HR.eq]; exact q1.out.row, q2.out.otherRow _ _ (by omega), kk.out.setRow (by omega) _⟩
      case measure => simp [intOf]; omega
    · have hk24 : k = 24 := by omega
      have HE : Is (perm s) (rnds s k) := ⟨by rw [hk24]; rfl⟩
      obtain ⟨u, hu⟩ : ∃ u, rnds s k = u := ⟨_, rfl⟩
      rw [hu] at H1 hl HE
      clear hu hk24
      go_wp2_with (first | (with_reducible refine wpList_ld (.tmp 1) rfl rfl _ rfl u hl H1.out ?_) | (with_reducible refine wpList_st (.tmp 2) (.tmp 11) rfl rfl _ rfl u hl rfl z25 rfl H2.out ?_))
      refine bodyPost_ret (res_cell (p := 2) (g := w.heap.size + 1) (s := u) rfl _ _ hl rfl H2.out.row) rfl ⟨?_, HK.out.setRow (by omega) _⟩
      rw [HE.eq]

/-! States held against each other. -/
theorem items_S (w : World) (s t : List L64) (hs : s.length = 25) (ht : t.length = 25) : ∀ is : List Nat, (∀ i ∈ is, i < 25) →
    (Op.eqItems 9999 27 (Try.prog.cellsOf 27) (stv s).toArray (stv t).toArray is).run Try.prog w = .ok (is.all fun i => decide (gl s i = gl t i)) w
  | [], _ => by simp [Op.eqItems]
  | i :: is, h => by
    have hc : Try.prog.cellsOf 27 = 1 := by kernel_rfl
    have hi := h i List.mem_cons_self
    have ih := items_S w s t hs ht is fun x hx => h x (List.mem_cons_of_mem _ hx)
    rw [hc] at ih ⊢
    have p1 := run_part_plain (P := Try.prog) w (e := 27) (by kernel_rfl) (xs := (stv s).toArray) (off := i) (by rw [List.getElem?_toArray]; exact stv_get s i (by omega))
    have p2 := run_part_plain (P := Try.prog) w (e := 27) (by kernel_rfl) (xs := (stv t).toArray) (off := i) (by rw [List.getElem?_toArray]; exact stv_get t i (by omega))
    have p3 := run_equalIn_int (P := Try.prog) w 9998 27 .u64 .u64 ((gl s i).toNat : Int) ((gl t i).toNat : Int) Try.underlying27
    have e : (((gl s i).toNat : Int) == ((gl t i).toNat : Int)) = decide (gl s i = gl t i) := by
      rw [Bool.eq_iff_iff]
      simp only [beq_iff_eq, decide_eq_true_eq]
      exact ⟨fun h => BitVec.eq_of_toNat_eq (by omega), fun h => by rw [h]⟩
    simp only [Op.eqItems, Sem.run_bind, Nat.mul_one, p1, p2, p3, Result.andThen_ok, e, List.all_cons]
    by_cases hh : gl s i = gl t i
    · rw [decide_eq_true hh]; simpa using ih
    · rw [decide_eq_false hh]; simp

theorem run_eq_S (s t : List L64) (hs : s.length = 25) (ht : t.length = 25) (w : World) : (Op.equalIn 10000 28 (.agg (stv s).toArray) (.agg (stv t).toArray)).run Try.prog w = .ok (decide (s = t)) w := by
  obtain ⟨i, hi⟩ : ∃ i, Try.prog.info? 27 = some i := by
    have := Try.sizeL
    cases h : Try.prog.info? 27 with
    | none => rw [h] at this; cases this
    | some i => exact ⟨i, rfl⟩
  rw [run_equalIn_array (P := Try.prog) w 9999 (stv s).toArray (stv t).toArray Try.underlying28 hi, items_S w s t hs ht _ (fun i hi => List.mem_range.1 hi)]
  congr 1
  rw [Bool.eq_iff_iff]
  simp only [List.all_eq_true, List.mem_range, decide_eq_true_eq]
  exact ⟨fun h => gl_ext hs ht h, fun h i _ => by rw [h]⟩

theorem run_eq_yes {s t : List L64} (hs : s.length = 25) (ht : t.length = 25) (h : s = t) (w : World) : (Op.equalIn 10000 28 (.agg (stv s).toArray) (.agg (stv t).toArray)).run Try.prog w = .ok true w := by
  rw [run_eq_S s t hs ht, decide_eq_true h]
theorem run_eq_no {s t : List L64} (hs : s.length = 25) (ht : t.length = 25) (h : s ≠ t) (w : World) : (Op.equalIn 10000 28 (.agg (stv s).toArray) (.agg (stv t).toArray)).run Try.prog w = .ok false w := by
  rw [run_eq_S s t hs ht, decide_eq_false h]

theorem Try.noGuard : Try.prog.eqGuardType Try.prog.depth 28 = false := by kernel_rfl

section
variable {o : Oper} {a : Act} {W : World}
theorem ld_run (x : Operand) (ho : o.op = .load 28 x) (g : Nat) (hx : a.eval x = .pointer (some ⟨g, 0, none⟩)) (s : List L64) (hs : s.length = 25) (hg : RowL W g 28 s) :
    (execOp a.eval o).run Try.prog W = .ok (.value (.agg (stv s).toArray)) W := by
  unfold execOp
  simp only [ho, hx, Instr.loadAt, Instr.sureAddr, Sem.run_bind, Sem.run_pure, Result.andThen_ok, run_loadVar_row W g _ _ _ _ _ hg Try.underlying28 rfl (by rw [Try.infoS]; simp [stv_len, hs])]
theorem eq_run (x y : Operand) (q : Nat) (ho : o.op = .binOp .eql 28 x y q) (s t : List L64) (hx : a.eval x = .agg (stv s).toArray) (hy : a.eval y = .agg (stv t).toArray) (r : Bool) (h : ∀ w, (Op.equalIn 10000 28 (.agg (stv s).toArray) (.agg (stv t).toArray)).run Try.prog w = .ok r w) :
    (execOp a.eval o).run Try.prog W = .ok (.value (.bool r)) W := by
  unfold execOp
  simp only [ho, hx, hy, Sem.run_bind, run_eqGuard_agg _ _ _ _ _ _ _ Try.noGuard, run_eql_struct, h, Result.andThen_ok, Sem.run_pure]
theorem ne_run (x y : Operand) (q : Nat) (ho : o.op = .binOp .neq 28 x y q) (s t : List L64) (hx : a.eval x = .agg (stv s).toArray) (hy : a.eval y = .agg (stv t).toArray) (r : Bool) (h : ∀ w, (Op.equalIn 10000 28 (.agg (stv s).toArray) (.agg (stv t).toArray)).run Try.prog w = .ok r w) :
    (execOp a.eval o).run Try.prog W = .ok (.value (.bool !r)) W := by
  unfold execOp
  simp only [ho, hx, hy, Sem.run_bind, run_eqGuard_agg _ _ _ _ _ _ _ Try.noGuard, run_neq_struct, h, Result.andThen_ok, Sem.run_pure]
end
end Go.Proofs.Ytpijnpapmdnceaa
