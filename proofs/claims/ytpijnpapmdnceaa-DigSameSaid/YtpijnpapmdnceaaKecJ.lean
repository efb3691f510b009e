/- The walks of the reference's bit, turns. -/
import Derived.Test.YtpijnpapmdnceaaKecI
namespace Go.Proofs.Ytpijnpapmdnceaa
open Go Go.RowKit

theorem lf_xor2 : ∀ r : Fin 256, 256 ≤ 2 * r.1 → bits .xor .i64 (2 * ((r.1 : Nat) : Int)) 369 = ((lf1 r.1 : Nat) : Int) := by decide +kernel

set_option maxRecDepth 10000 in
set_option maxHeartbeats 2000000 in
theorem bit_any (t : Nat) (ht : t ≤ 200) (w : World) :
    Calls Try.prog 54 #[.int .i64 (t : Int)] w fun e w' => e = .returned (.int .u64 ((lf t % 2 : Nat) : Int)) ∧ w = w' := by
  go_enter Try.func54, Try.ntmps54
  go_wp2
  go_loop [3, 4] (fun r i => ∃ k : Nat, k ≤ t ∧ i = .int .i64 k ∧ r = .int .i64 (lf k)) (fun _ i => t - (intOf i).toNat)
  case atStart => exact ⟨0, Nat.zero_le _, rfl, rfl⟩
  case round =>
    obtain ⟨k, hk, rfl, rfl⟩ := hrel
    have hr := lf_lt k
    by_cases hlt : k < t
    · have L : lf (k + 1) = lf1 (lf k) := rfl
      have x2 := lf_xor2 ⟨lf k, hr⟩
      have x3 := @lf1_small (lf k)
      dsimp only at x2
      obtain ⟨r, hrr⟩ : ∃ r, lf k = r := ⟨_, rfl⟩
      rw [hrr] at hr L x2 x3 ⊢
      have r0 : (0 : Int) ≤ (r : Int) := by omega
      have r1 : (r : Int) ≤ 255 := by omega
      have hkl : (k : Int) < (t : Int) := by omega
      clear hrr hr
      by_cases hbig : 256 ≤ 2 * r
      · have x2 := x2 hbig
        obtain ⟨r', hr'⟩ : ∃ r', lf1 r = r' := ⟨_, rfl⟩
        rw [hr'] at x2 L
        have LL := hid L
        have t1 : decide (256 ≤ 2 * (r : Int)) = true := decide_eq_true (by omega)
        have HB := hid hbig
        clear x3 hr' L hbig
        go_wp2
        go_round
        case rel => exact ⟨k + 1, by omega, by go_num, by rw [LL.out]⟩
        case measure => simp [intOf]; omega
      · have x3 := x3 hbig
        rw [x3] at L
        have LL := hid L
        have t1 : decide (256 ≤ 2 * (r : Int)) = false := decide_eq_false (by omega)
        have HB := hid hbig
        clear x3 x2 L hbig
        go_wp2
        go_round
        case rel => exact ⟨k + 1, by omega, by go_num, by rw [LL.out]; first | rfl | (congr 1; omega)⟩
        case measure => simp [intOf]; omega
    · obtain rfl : k = t := by omega
      obtain ⟨r, hrr⟩ : ∃ r, lf k = r := ⟨_, rfl⟩
      have hkl : ¬ (k : Int) < (k : Int) := by omega
      rw [hrr] at hr ⊢
      have r0 : (0 : Int) ≤ (r : Int) := by omega
      have r1 : (r : Int) ≤ 255 := by omega
      have HE := hid hrr
      clear hlt hrr hk
      go_wp2
      go_ret
      exact ⟨by rw [HE.out]; rfl, rfl⟩

/-- A row of values; of numbers. -/
def RowV (w : World) (b T : Nat) (vs : List Value) : Prop := w.heap[b]? = some (.cells vs.toArray T (0, 0))
def ntv (l : List Nat) : List Value := l.map fun (n : Nat) => Value.int .i64 (n : Int)
theorem ntv_len (l : List Nat) : (ntv l).length = l.length := by simp [ntv]
theorem ntv_get (l : List Nat) (i : Nat) (h : i < l.length) : (ntv l)[i]? = some (.int .i64 ((l.getD i 0 : Nat) : Int)) := by simp [ntv, h]
theorem ntv_set (l : List Nat) (i n : Nat) : (ntv l).set i (.int .i64 (n : Int)) = ntv (l.set i n) := by simp [ntv, List.map_set]
theorem ntv_one (l : List Nat) : ((ntv l).toArray).all (·.oneCell') = true := by
  rw [Array.all_eq_true_iff_forall_mem]
  intro v hv
  simp only [ntv, List.mem_toArray, List.mem_map] at hv
  obtain ⟨a, _, rfl⟩ := hv
  rfl
theorem RowV.cell {w : World} {b T : Nat} {l : List Nat} (h : RowV w b T (ntv l)) (i : Nat) (hi : i < l.length) : w.cell? ⟨b, i, none⟩ = some (.int .i64 ((l.getD i 0 : Nat) : Int)) := by
  rw [cell_of_row w b i _ _ _ h, List.getElem?_toArray]; exact ntv_get l i hi
theorem RowV.fro {w : World} {b T : Nat} {vs : List Value} (h : RowV w b T vs) (i : Nat) : w.frozen? ⟨b, i, none⟩ = false := frozen_of_row w b i _ _ h
theorem RowV.set {w : World} {b T : Nat} {l : List Nat} (h : RowV w b T (ntv l)) (i n : Nat) : RowV (w.setCell ⟨b, i, none⟩ (.int .i64 (n : Int))) b T (ntv (l.set i n)) := by
  have := heap_setCell_same w b i _ T (.int .i64 (n : Int)) h
  rw [List.setIfInBounds_toArray, ntv_set] at this
  exact this
theorem RowV.lt {w : World} {b T : Nat} {vs : List Value} (h : RowV w b T vs) : b < w.heap.size := lt_of_heap h
theorem RowV.other {w : World} {b T : Nat} {vs : List Value} (h : RowV w b T vs) (a : Addr) (v : Value) (hne : b ≠ a.block) : RowV (w.setCell a v) b T vs := (heap_setCell_other w a b v hne).trans h
theorem RowV.otherRow {w : World} {b T : Nat} {vs : List Value} (h : RowV w b T vs) (g : Nat) (cs : Array Value) (hne : b ≠ g) : RowV (w.setRow g cs) b T vs := (setRow_other w g b cs hne).trans h
theorem RowV.row {w : World} {b T : Nat} {vs vs' : List Value} (h : RowV w b T vs) : RowV (w.setRow b vs'.toArray) b T vs' := setRow_heap w b _ _ T _ h
theorem RowV.keep {F : Nat → Prop} {w w' : World} {b T : Nat} {vs : List Value} (h : RowV w b T vs) (hK : Keep F w w') (hF : ¬ F b) : RowV w' b T vs := (hK.block b h.lt hF).trans h
theorem RowV.mk {w : World} (T : Nat) (vs : List Value) : RowV (w.alloc (.cells vs.toArray T)) w.heap.size T vs := heap_alloc_new w _

theorem Try.infoT : (Try.prog.info? 82).map (·.size) = some 25 := by kernel_rfl
theorem Try.infoA : (Try.prog.info? 79).map (·.size) = some 25 := by kernel_rfl

section
variable {ops : Array Oper} {rest : List Oper} {o : Oper} {a : Act} {w : World} {K : Act → World → Prop} {Q : Exit → Act → World → Prop}
theorem wpList_ldV (T k e : Nat) (hT : Try.prog.underlying T = some (.array k e)) (n : Nat) (hi : (Try.prog.info? T).map (·.size) = some n)
    (x : Operand) (hgd : o.guard = none) (ho : o.op = .load T x) (g : Nat) (hx : a.eval x = .pointer (some ⟨g, 0, none⟩)) (vs : List Value) (hs : vs.length = n) (t : Nat) (hg : RowV w g t vs)
    (h : wpList Try.prog ops Q rest (a.put o.dst (.agg vs.toArray)) w) : wpList Try.prog ops Q (o :: rest) a w :=
  wpList_load_row hgd _ x ho g hx _ _ _ _ hg hT rfl (by rw [hi]; simp [hs]) h
theorem wpList_stV (T n : Nat) (hi : (Try.prog.info? T).map (·.size) = some n)
    (x y : Operand) (hgd : o.guard = none) (ho : o.op = .store T x y) (g : Nat) (hx : a.eval x = .pointer (some ⟨g, 0, none⟩)) (vs : List Value) (hs : vs.length = n) (hv : vs.toArray.all (·.oneCell') = true) (hy : a.eval y = .agg vs.toArray) (us : List Value) (hu : us.length = n) (t : Nat) (hg : RowV w g t us)
    (h : wpList Try.prog ops Q rest (a.put o.dst undef) (w.setRow g vs.toArray)) : wpList Try.prog ops Q (o :: rest) a w :=
  wpList_store_row hgd _ x y ho g _ hx hy _ _ hg (by rw [hi]; simp [hs]) (by simp [hs, hu]) hv h
end

/-- Two lists of numbers are one. -/
structure IsN (s t : List Nat) : Prop where
  eq : s = t

theorem tnS_succ (k : Nat) : tnS (k + 1) = tn1 (tnS k) k := by unfold tnS; rw [List.range_succ, List.foldl_append, List.foldl_cons, List.foldl_nil]
theorem tnS_pos : ∀ k, (tnS k).x < 5 ∧ (tnS k).y < 5 ∧ (tnS k).o.length = 25
  | 0 => ⟨by show 1 < 5; decide, by show 0 < 5; decide, by show zn.length = 25; decide⟩
  | k + 1 => by
    have := tnS_pos k
    rw [tnS_succ]
    exact ⟨this.2.1, Nat.mod_lt _ (by decide), by unfold tn1; rw [List.length_set]; exact this.2.2⟩

theorem built58 : Try.prog.built 82 [] = some (ntv zn).toArray := by kernel_rfl
theorem built55 : Try.prog.built 79 [] = some (stv z25).toArray := by kernel_rfl
theorem built37 : Try.prog.built 28 [] = some (stv z25).toArray := by kernel_rfl
theorem run_b58 (w : World) : (Instr.build 82 #[]).run Try.prog w = .ok (.agg (ntv zn).toArray) w := run_build w _ _ _ built58
theorem run_b55 (w : World) : (Instr.build 79 #[]).run Try.prog w = .ok (.agg (stv z25).toArray) w := run_build w _ _ _ built55
theorem run_b37 (w : World) : (Instr.build 28 #[]).run Try.prog w = .ok (.agg (stv z25).toArray) w := run_build w _ _ _ built37

theorem ntv_zn : (ntv zn).length = 25 := rfl
theorem stv_z25 : (stv z25).length = 25 := rfl
theorem wpList_bd {T : Nat} {cs : Array Value} (hb : Try.prog.built T [] = some cs) {ops : Array Oper} {rest : List Oper} {o : Oper} {a : Act} {w : World} {Q : Exit → Act → World → Prop} (hgd : o.guard = none) (ho : o.op = .build T #[])
    (h : wpList Try.prog ops Q rest (a.put o.dst (.agg cs)) w) : wpList Try.prog ops Q (o :: rest) a w := by
  refine wpList_plain hgd fun K hK => ?_
  unfold Oper.wp execOp
  simp only [ho, Sem.run_bind, run_build (P := Try.prog) w T _ cs hb, Array.map_empty, Result.andThen_ok]
  exact hK _ _ h

set_option maxRecDepth 10000 in
set_option maxHeartbeats 2000000 in
theorem turns_any (w : World) :
    Calls Try.prog 53 #[] w fun e w' => ∃ l, IsN turns l ∧ l.length = 25 ∧ e = .returned (.agg (ntv l).toArray) ∧ Keep (fun _ => False) w w' := by
  have q0 := hid (RowV.keep (RowV.mk (w := w) 82 (ntv zn)) ((Keep.refl (fun _ => False) _).alloc (.cells (ntv zn).toArray 82)) (fun h => h))
  have q1 := RowV.mk (w := w.alloc (.cells (ntv zn).toArray 82)) 82 (ntv zn)
  rw [World.size_alloc] at q1
  have q1 := hid q1
  have kk := hid (((Keep.refl (fun _ => False) w).alloc (.cells (ntv zn).toArray 82)).alloc (.cells (ntv zn).toArray 82))
  have r0 := hid (q0.out.otherRow (w.heap.size + 1) (ntv zn).toArray (by omega))
  have r1 := hid (q1.out.row (vs' := ntv zn))
  have rk := hid (kk.out.setRow (g := w.heap.size + 1) (by omega) (ntv zn).toArray)
  clear q0 kk
  go_enter Try.func53, Try.ntmps53
  go_wp2_with (first | (with_reducible refine wpList_bd built58 rfl rfl ?_) | ((with_reducible refine wpList_stV 82 25 Try.infoT (.tmp 1) (.tmp 6) rfl rfl _ rfl (ntv zn) ntv_zn (ntv_one _) rfl (ntv zn) ntv_zn 82 ?_ ?_); exact q1.out))
  clear q1
  have hin := tnS_pos 0
  go_loopw [2, 3, 4] (fun x y i wr => ∃ (k : Nat) (a b : Nat) (l : List Nat), k ≤ 24 ∧ i = .int .i64 k ∧ x = .int .i64 a ∧ y = .int .i64 b ∧ tnS k = ⟨a, b, l⟩ ∧ RowV wr w.heap.size 82 (ntv zn) ∧ RowV wr (w.heap.size + 1) 82 (ntv l) ∧ Keep (fun _ => False) w wr) (fun _ _ i _ => 24 - (intOf i).toNat)
  case atStart => exact ⟨0, 1, 0, zn, Nat.zero_le _, rfl, rfl, rfl, rfl, r0.out, r1.out, rk.out⟩
  case round =>
    obtain ⟨k, x, y, l, hk, rfl, rfl, rfl, ht, h0, h1, hK⟩ := hrel
    clear r0 r1 rk hin
    have H0 := hid h0
    have H1 := hid h1
    have HK := hid hK
    obtain ⟨hx5, hy5, hl⟩ := tnS_pos k
    have TS := tnS_succ k
    rw [ht] at hx5 hy5 hl TS
    dsimp only [tn1] at hx5 hy5 hl TS
    by_cases hlt : k < 24
    · obtain ⟨z, hz⟩ : ∃ z, (2 * x + 3 * y) % 5 = z := ⟨_, rfl⟩
      obtain ⟨n, hn⟩ : ∃ n, (k + 1) * (k + 2) / 2 % 64 = n := ⟨_, rfl⟩
      rw [hz, hn] at TS
      have hnn : ((k : Int) + 1) * ((k : Int) + 2) / 2 % 64 = (n : Int) := by rw [← hn]; norm_cast
      have m1 : (k + 1) * (k + 2) ≤ 25 * 26 := Nat.mul_le_mul (by omega) (by omega)
      have m2 : ((k : Int) + 1) * ((k : Int) + 2) ≤ 650 := by exact_mod_cast m1
      have m3 : 0 ≤ ((k : Int) + 1) * ((k : Int) + 2) := by exact_mod_cast Nat.zero_le ((k + 1) * (k + 2))
      have hzz : (2 * (x : Int) + 3 * (y : Int)) % 5 = (z : Int) := by omega
      have k25 : (k : Int) < 24 := by omega
      have k0 : (0 : Int) ≤ k := by omega
      have x0 : (0 : Int) ≤ x := by omega
      have x5 : (x : Int) < 5 := by omega
      have y0 : (0 : Int) ≤ y := by omega
      have y5 : (y : Int) < 5 := by omega
      have c1 := h1.cell (x * 5 + y) (by omega)
      have f1 := h1.fro (x * 5 + y)
      have TS := hid TS
      clear h0 h1 hK ht hx5 hy5 hn m1 hz
      go_wp2
      go_roundw
      case rel => exact ⟨k + 1, y, z, _, by omega, by go_num, rfl, by first | rfl | rw [hzz], TS.out, H0.out.other _ _ (by dsimp only; omega), H1.out.set _ _, HK.out.setCell (.inr (by dsimp only; omega)) _⟩
      case measure => simp [intOf]; omega
    · have hk24 : k = 24 := by omega
      have HE : IsN turns l := ⟨by unfold turns; rw [← hk24, ht]⟩
      have hl2 : (ntv l).length = 25 := by rw [ntv_len, hl]
      clear h0 h1 hK hk24 hx5 hy5 TS ht
      go_wp2_with (first | (with_reducible refine wpList_ldV 82 _ _ Try.underlying82 25 Try.infoT (.tmp 1) rfl rfl _ rfl (ntv l) hl2 _ H1.out ?_) | (with_reducible refine wpList_stV 82 25 Try.infoT (.tmp 0) (.tmp 30) rfl rfl _ rfl (ntv l) hl2 (ntv_one _) rfl (ntv zn) ntv_zn _ H0.out ?_))
      refine bodyPost_ret (results_cell_row rfl _ _ w.heap.size _ (ntv l).toArray _ _ rfl H0.out.row Try.underlying82 rfl (by rw [Try.infoT]; simp [hl2])) rfl ⟨l, HE, hl, rfl, HK.out.setRow (by omega) _⟩
end Go.Proofs.Ytpijnpapmdnceaa
