/- Keccak: the reference's Permute; states held against each other; awake. -/
import Derived.Test.YtpijnpapmdnceaaKecK
namespace Go.Proofs.Ytpijnpapmdnceaa
open Go Go.RowKit

theorem rrounds_any (s : List L64) (hs : s.length = 25) (n : Nat) (hn : n < 24) (w : World) :
    Calls Try.prog 46 #[.agg (stv s).toArray, .int .i64 (n : Int)] w fun e w' => e = .returned (.agg (stv (rnd s n)).toArray) ∧ Keep (fun _ => False) w w' := by
  rw [← rrnd_eq hs n hn]
  exact rround_in s hs n hn w

set_option maxRecDepth 10000 in
set_option maxHeartbeats 2000000 in
theorem rperm_any (s : List L64) (hs : s.length = 25) (w : World) :
    Calls Try.prog 35 #[.agg (stv s).toArray] w fun e w' => e = .returned (.agg (stv (perm s)).toArray) ∧ Keep (fun _ => False) w w' := by
  obtain ⟨q1, q2, kk⟩ := boxes2 w s z25 28 28
  have q1 := hid q1
  have q2 := hid q2
  have kk := hid kk
  go_enter Try.func35, Try.ntmps35
  go_wp2_with fail
  go_loopw [3] (fun i wr => ∃ k : Nat, k ≤ 24 ∧ i = .int .i64 k ∧ RowL wr w.heap.size 28 (rnds s k) ∧ RowL wr (w.heap.size + 1) 28 z25 ∧ Keep (fun _ => False) w wr) (fun i _ => 24 - (intOf i).toNat)
  case atStart => exact ⟨0, Nat.zero_le _, rfl, q1.out, q2.out, kk.out⟩
  case round =>
    obtain ⟨k, hk, rfl, h1, h2, hK⟩ := hrel
    have H1 := hid h1
    have H2 := hid h2
    have HK := hid hK
    have hl := rnds_len hs k
    clear q1 q2 kk h1 h2 hK
    by_cases hlt : k < 24
    · have TS := rnds_succ s k
      obtain ⟨u, hu⟩ : ∃ u, rnds s k = u := ⟨_, rfl⟩
      rw [hu] at H1 hl TS
      have HR : Is (rnds s (k + 1)) (rnd u k) := ⟨TS⟩
      clear hu TS
      go_wp2_with ((with_reducible refine wpList_ld (.tmp 1) rfl rfl _ rfl u hl H1.out ?_))
      refine (rrounds_any u hl k hlt _).mono ?_
      rintro _ W1 ⟨rfl, K1⟩
      have q1 := hid (H1.out.keep K1 (fun h => h))
      have q2 := hid (H2.out.keep K1 (fun h => h))
      have kk := hid (HK.out.trans K1)
      have hrl := rnd_len u k
      obtain ⟨v, hv⟩ : ∃ v, rnd u k = v := ⟨_, rfl⟩
      rw [hv] at hrl HR ⊢
      clear K1 H1 H2 HK hv
      go_wp2_with (with_reducible refine wpList_st (.tmp 1) (.tmp 10) rfl rfl _ rfl v hrl rfl u hl q1.out ?_)
      go_roundw
      case rel => exact ⟨k + 1, by omega, by go_num, by rw [HR.eq]; exact q1.out.row, q2.out.otherRow _ _ (by omega), kk.out.setRow (by omega) _⟩
      case measure => simp [intOf]; omega
    · have hk24 : k = 24 := by omega
      have HE : Is (perm s) (rnds s k) := ⟨by rw [hk24]; rfl⟩
      obtain ⟨u, hu⟩ : ∃ u, rnds s k = u := ⟨_, rfl⟩
      rw [hu] at H1 hl HE
      clear hu hk24
      go_wp2_with (first | (with_reducible refine wpList_ld (.tmp 1) rfl rfl _ rfl u hl H1.out ?_) | (with_reducible refine wpList_st (.tmp 2) (.tmp 11) rfl rfl _ rfl u hl rfl z25 rfl H2.out ?_))
      refine bodyPost_ret (res_cell (p := 2) (g := w.heap.size + 1) (s := u) rfl _ _ hl rfl H2.out.row) rfl ⟨?_, HK.out.setRow (by omega) _⟩
      rw [HE.eq]

/-! States held against each other. -/
theorem items_S (w : World) (s t : List L64) (hs : s.length = 25) (ht : t.length = 25) : ∀ is : List Nat, (∀ i ∈ is, i < 25) →
    (Op.eqItems 9999 27 (Try.prog.cellsOf 27) (stv s).toArray (stv t).toArray is).run Try.prog w = .ok (is.all fun i => decide (gl s i = gl t i)) w
  | [], _ => by simp [Op.eqItems]
  | i :: is, h => by
    have hc : Try.prog.cellsOf 27 = 1 := by kernel_rfl
    have hi := h i List.mem_cons_self
    have ih := items_S w s t hs ht is fun x hx => h x (List.mem_cons_of_mem _ hx)
    rw [hc] at ih ⊢
    have p1 := run_part_plain (P := Try.prog) w (e := 27) (by kernel_rfl) (xs := (stv s).toArray) (off := i) (by rw [List.getElem?_toArray]; exact stv_get s i (by omega))
    have p2 := run_part_plain (P := Try.prog) w (e := 27) (by kernel_rfl) (xs := (stv t).toArray) (off := i) (by rw [List.getElem?_toArray]; exact stv_get t i (by omega))
    have p3 := run_equalIn_int (P := Try.prog) w 9998 27 .u64 .u64 ((gl s i).toNat : Int) ((gl t i).toNat : Int) Try.underlying27
    have e : (((gl s i).toNat : Int) == ((gl t i).toNat : Int)) = decide (gl s i = gl t i) := by
      rw [Bool.eq_iff_iff]
      simp only [beq_iff_eq, decide_eq_true_eq]
      exact ⟨fun h => BitVec.eq_of_toNat_eq (by omega), fun h => by rw [h]⟩
    simp only [Op.eqItems, Sem.run_bind, Nat.mul_one, p1, p2, p3, Result.andThen_ok, e, List.all_cons]
    by_cases hh : gl s i = gl t i
    · rw [decide_eq_true hh]; simpa using ih
    · rw [decide_eq_false hh]; simp

theorem run_eq_S (s t : List L64) (hs : s.length = 25) (ht : t.length = 25) (w : World) : (Op.equalIn 10000 28 (.agg (stv s).toArray) (.agg (stv t).toArray)).run Try.prog w = .ok (decide (s = t)) w := by
  obtain ⟨i, hi⟩ : ∃ i, Try.prog.info? 27 = some i := by
    have := Try.sizeL
    cases h : Try.prog.info? 27 with
    | none => rw [h] at this; cases this
    | some i => exact ⟨i, rfl⟩
  rw [run_equalIn_array (P := Try.prog) w 9999 (stv s).toArray (stv t).toArray Try.underlying28 hi, items_S w s t hs ht _ (fun i hi => List.mem_range.1 hi)]
  congr 1
  rw [Bool.eq_iff_iff]
  simp only [List.all_eq_true, List.mem_range, decide_eq_true_eq]
  exact ⟨fun h => gl_ext hs ht h, fun h i _ => by rw [h]⟩

theorem run_eq_yes {s t : List L64} (hs : s.length = 25) (ht : t.length = 25) (h : s = t) (w : World) : (Op.equalIn 10000 28 (.agg (stv s).toArray) (.agg (stv t).toArray)).run Try.prog w = .ok true w := by
  rw [run_eq_S s t hs ht, decide_eq_true h]
theorem run_eq_no {s t : List L64} (hs : s.length = 25) (ht : t.length = 25) (h : s ≠ t) (w : World) : (Op.equalIn 10000 28 (.agg (stv s).toArray) (.agg (stv t).toArray)).run Try.prog w = .ok false w := by
  rw [run_eq_S s t hs ht, decide_eq_false h]

theorem Try.noGuard : Try.prog.eqGuardType Try.prog.depth 28 = false := by kernel_rfl

section
variable {o : Oper} {a : Act} {W : World}
theorem ld_run (x : Operand) (ho : o.op = .load 28 x) (g : Nat) (hx : a.eval x = .pointer (some ⟨g, 0, none⟩)) (s : List L64) (hs : s.length = 25) (hg : RowL W g 28 s) :
    (execOp a.eval o).run Try.prog W = .ok (.value (.agg (stv s).toArray)) W := by
  unfold execOp
  simp only [ho, hx, Instr.loadAt, Instr.sureAddr, Sem.run_bind, Sem.run_pure, Result.andThen_ok, run_loadVar_row W g _ _ _ _ _ hg Try.underlying28 rfl (by rw [Try.infoS]; simp [stv_len, hs])]
theorem eq_run (x y : Operand) (q : Nat) (ho : o.op = .binOp .eql 28 x y q) (s t : List L64) (hx : a.eval x = .agg (stv s).toArray) (hy : a.eval y = .agg (stv t).toArray) (r : Bool) (h : ∀ w, (Op.equalIn 10000 28 (.agg (stv s).toArray) (.agg (stv t).toArray)).run Try.prog w = .ok r w) :
    (execOp a.eval o).run Try.prog W = .ok (.value (.bool r)) W := by
  unfold execOp
  simp only [ho, hx, hy, Sem.run_bind, run_eqGuard_agg _ _ _ _ _ _ _ Try.noGuard, run_eql_struct, h, Result.andThen_ok, Sem.run_pure]
theorem ne_run (x y : Operand) (q : Nat) (ho : o.op = .binOp .neq 28 x y q) (s t : List L64) (hx : a.eval x = .agg (stv s).toArray) (hy : a.eval y = .agg (stv t).toArray) (r : Bool) (h : ∀ w, (Op.equalIn 10000 28 (.agg (stv s).toArray) (.agg (stv t).toArray)).run Try.prog w = .ok r w) :
    (execOp a.eval o).run Try.prog W = .ok (.value (.bool !r)) W := by
  unfold execOp
  simp only [ho, hx, hy, Sem.run_bind, run_eqGuard_agg _ _ _ _ _ _ _ Try.noGuard, run_neq_struct, h, Result.andThen_ok, Sem.run_pure]
end
end Go.Proofs.Ytpijnpapmdnceaa
