/- The reader: next. -/
import Derived.Test.YtknlhbbkjgkjpaaLexC
namespace Go.Proofs.Ytknlhbbkjgkjpaa
open Go Go.RowKit

theorem Rd.stay {w0 W : World} {b : Nat} {l0 : By} {i : Nat} {t : LS} (h : Rd w0 W b l0 i t) (hc : t.cur = none) (j : Nat) : Rd w0 W b l0 j t := by
  obtain ⟨sv, fr, a, h1, h2, h3, h4⟩ := h.ex
  refine ⟨⟨sv, fr, a, h1, h2, ?_, h4⟩, h.kp, h.ge⟩
  unfold Cur at h3 ⊢
  rw [hc] at h3 ⊢
  exact h3
section
variable {w0 W W' : World} {b : Nat} {l0 : By} {i : Nat} {t : LS}
theorem Rd.lt (h : Rd w0 W b l0 i t) : b < W.heap.size := by obtain ⟨_, _, _, h1, _⟩ := h.ex; exact h1.lt
theorem Rd.turn (h : Rd w0 W b l0 i t) (o : Nat) (u : Value) (t' : LS) (hws : t'.ws = t.ws) (hcur : t'.cur = t.cur)
    (hR : ∀ sv fr a, RO W b sv t.line t.col fr a t.rem → RO (W.setCell ⟨b, o, none⟩ u) b sv t'.line t'.col fr a t'.rem) : Rd w0 (W.setCell ⟨b, o, none⟩ u) b l0 i t' := by
  obtain ⟨sv, fr, a, h1, h2, h3, h4⟩ := h.ex
  have kk : Keep (fun k => k = b) W (W.setCell ⟨b, o, none⟩ u) := (Keep.refl _ W).setOwn _
  refine ⟨⟨sv, fr, a, hR sv fr a h1, by rw [hws]; exact h2.keep kk (fun k hk he => (h4 k hk).2 he), by unfold Cur at h3 ⊢; rw [hcur]; exact h3, h4⟩, h.kp.then kk (fun k hk => .inr (by rw [hk]; exact h.ge)), h.ge⟩
theorem Rd.oth (h : Rd w0 W b l0 i t) (o : Nat) (u : Value) : Oth W (W.setCell ⟨b, o, none⟩ u) := by
  obtain ⟨sv, fr, a, h1, _⟩ := h.ex
  exact Oth.of_keep (F := fun k => k = b) ((Keep.refl _ W).setOwn _) (fun k hk _ => by subst hk; exact ⟨_, _, _, h1⟩)
theorem Rd.keep {F : Nat → Prop} (h : Rd w0 W b l0 i t) (hK : Keep F W W') (hF : ∀ k, F k → k < w0.heap.size → False) (hn : ∀ k, F k → k < W.heap.size → False) : Rd w0 W' b l0 i t := by
  obtain ⟨sv, fr, a, h1, h2, h3, h4⟩ := h.ex
  refine ⟨⟨sv, fr, a, h1.keep hK (fun hf => hn _ hf h1.lt), h2.keep hK (fun k hk hf => hn k hf (h2.lt k hk).2), h3, h4⟩, h.kp.then hK (fun k hk => .inr (by
    by_cases hh : w0.heap.size ≤ k
    · exact hh
    · exact (hF k hk (by omega)).elim)), h.ge⟩
end
theorem cut_more (l0 : By) (p i d : Nat) (hp : p ≤ i) (hi : i + d ≤ l0.length) : (l0.take i).drop p ++ (l0.drop i).take d = (l0.take (i + d)).drop p := by
  rw [List.take_add, List.drop_append_of_le_length (by rw [List.length_take]; omega)]
theorem cut_new (l0 : By) (i d : Nat) (hi : i + d ≤ l0.length) : (l0.drop i).take d = (l0.take (i + d)).drop i := by
  have := cut_more l0 i i d (Nat.le_refl _) hi
  rw [← this, show (l0.take i).drop i = [] from List.drop_of_length_le (by rw [List.length_take]; omega), List.nil_append]

theorem endS_none (t : LS) : (endS t).cur = none := by
  unfold endS
  split
  · rfl
  · rename_i h; exact h

set_option maxRecDepth 10000 in
set_option maxHeartbeats 1000000 in
theorem next_any {w0 w : World} {b : Nat} {l0 : By} {i d c : Nat} {t : LS} (h : Rd w0 w b l0 i t) (hi : i + d ≤ l0.length) (hl : l0.length ≤ 5000) (hw : t.ws.length ≤ 100000) (hb : t.line ≤ 100000 ∧ t.col ≤ 100000) (hc : c ≤ 1114111) :
    Calls Try.prog 24 #[.pointer (some ⟨b, 0, none⟩), .string (bs l0), .int .i64 (i : Int), .int .i32 (c : Int)] w fun e w' => (∃ v, e = .returned v) ∧ Rd w0 w' b l0 (i + d) (nextS c ((l0.drop i).take d) t) ∧ Oth w w' := by
  obtain ⟨ws, line, col, cur, rem⟩ := t
  obtain ⟨sv, fr, a, hR, hO, hC, hF⟩ := id h.ex
  dsimp only at hR hO hC hw hb
  have H := hid h
  have R := hid hR
  have c5 := hR.c5
  have f5 := hR.fro 5
  have go : rem = true ∨ rem = false ∧ c = 35 ∨ rem = false ∧ c = 32 ∨ rem = false ∧ c ≠ 35 ∧ c ≠ 32 := by
    cases rem <;> simp <;> omega
  have turn : ∀ r, Hid (Rd w0 (w.setCell ⟨b, 5, none⟩ (.bool r)) b l0 i ⟨ws, line, col, cur, r⟩) := fun r => hid (H.out.turn 5 (.bool r) ⟨ws, line, col, cur, r⟩ rfl rfl (fun sv fr a h => h.s5 r))
  have oth : ∀ r, Hid (Oth w (w.setCell ⟨b, 5, none⟩ (.bool r))) := fun r => hid (H.out.oth 5 (.bool r))
  rcases go with rfl | ⟨rfl, rfl⟩ | ⟨rfl, rfl⟩ | ⟨rfl, h35, h32⟩
  case' inl =>
    have NS : Hid (nextS c ((l0.drop i).take d) ⟨ws, line, col, cur, true⟩ = endS ⟨ws, line, col, cur, true⟩) := hid (by unfold nextS; simp)
    have T := turn true
    have OT := oth true
  case' inr.inl =>
    have NS : Hid (nextS 35 ((l0.drop i).take d) ⟨ws, line, col, cur, false⟩ = endS ⟨ws, line, col, cur, true⟩) := hid (by unfold nextS; simp)
    have T := turn true
    have OT := oth true
  case' inr.inr.inl =>
    have NS : Hid (nextS 32 ((l0.drop i).take d) ⟨ws, line, col, cur, false⟩ = endS ⟨ws, line, col, cur, false⟩) := hid (by unfold nextS; simp)
    have T := turn false
    have OT := oth false
  case inr.inr.inr =>
    have e35 : ((c : Int) == 35) = false := by simp; omega
    have e32 : ((c : Int) == 32) = false := by simp; omega
    have T := turn false
    have OT := oth false
    have RT := hid (hR.s5 false)
    have c3' := RT.out.c3
    have c2' := RT.out.c2
    have c5' := RT.out.c5
    have f3' := RT.out.fro 3
    have f4' := RT.out.fro 4
    cases cur with
    | none =>
      have hfr : fr = -1 := hC
      subst hfr
      have NS : Hid (nextS c ((l0.drop i).take d) ⟨ws, line, col, none, false⟩ = ⟨ws, line, col, some ((l0.drop i).take d, col), false⟩) := hid (by unfold nextS; simp [h35, h32])
      have kk : Keep (fun k => k = b) w (((w.setCell ⟨b, 5, none⟩ (.bool false)).setCell ⟨b, 3, none⟩ (.int .i64 (i : Int))).setCell ⟨b, 4, none⟩ (.int .i64 (col : Int))) := (((Keep.refl _ w).setOwn _).setOwn _).setOwn _
      have RF := (RT.out.s3 (i : Int)).s4 (col : Int)
      have fin : Hid (Rd w0 (((w.setCell ⟨b, 5, none⟩ (.bool false)).setCell ⟨b, 3, none⟩ (.int .i64 (i : Int))).setCell ⟨b, 4, none⟩ (.int .i64 (col : Int))) b l0 (i + d) ⟨ws, line, col, some ((l0.drop i).take d, col), false⟩) :=
        hid ⟨⟨sv, _, _, RF, hO.keep kk (fun k hk he => (hF k hk).2 he), ⟨i, rfl, rfl, by omega, hi, cut_new l0 i d hi⟩, hF⟩, H.out.kp.then kk (fun k hk => .inr (by rw [hk]; exact H.out.ge)), H.out.ge⟩
      have OF : Hid (Oth w (((w.setCell ⟨b, 5, none⟩ (.bool false)).setCell ⟨b, 3, none⟩ (.int .i64 (i : Int))).setCell ⟨b, 4, none⟩ (.int .i64 (col : Int)))) := hid (Oth.of_keep kk (fun k hk _ => by subst hk; exact ⟨_, _, _, hR⟩))
      have c4' := (RT.out.s3 (i : Int)).c4
      clear turn oth hR hO hC hF kk RF T OT h35 h32
      go_enter Try.func24, Try.ntmps24
      go_wp2_with fail
      go_end0
      exact ⟨⟨_, rfl⟩, by rw [NS.out]; exact fin.out, OF.out⟩
    | some yc =>
      obtain ⟨y, cc⟩ := yc
      obtain ⟨p, hfr, ha, hp1, hp2, hy⟩ := id hC
      subst hfr ha
      have hp0 : ¬ (p : Int) < 0 := by omega
      have NS : Hid (nextS c ((l0.drop i).take d) ⟨ws, line, col, some (y, cc), false⟩ = ⟨ws, line, col, some (y ++ (l0.drop i).take d, cc), false⟩) := hid (by unfold nextS; simp [h35, h32])
      have kk : Keep (fun k => k = b) w (w.setCell ⟨b, 5, none⟩ (.bool false)) := (Keep.refl _ w).setOwn _
      have fin : Hid (Rd w0 (w.setCell ⟨b, 5, none⟩ (.bool false)) b l0 (i + d) ⟨ws, line, col, some (y ++ (l0.drop i).take d, cc), false⟩) :=
        hid ⟨⟨sv, _, _, RT.out, hO.keep kk (fun k hk he => (hF k hk).2 he), ⟨p, rfl, rfl, by omega, hi, by rw [hy]; exact cut_more l0 p i d hp1 hi⟩, hF⟩, H.out.kp.then kk (fun k hk => .inr (by rw [hk]; exact H.out.ge)), H.out.ge⟩
      clear turn oth hR hO hC hF kk T h35 h32 hy
      go_enter Try.func24, Try.ntmps24
      go_wp2_with fail
      go_end0
      exact ⟨⟨_, rfl⟩, by rw [NS.out]; exact fin.out, OT.out⟩
  all_goals
    clear turn oth hR hO hC hF
    have c5' := (R.out.s5 true).c5
    have c5'' := (R.out.s5 false).c5
    go_enter Try.func24, Try.ntmps24
    go_wp2_with fail
    refine (end_any T.out (by omega) hl hw hb).mono ?_
    rintro e W2 ⟨⟨v, rfl⟩, h2, o2⟩
    have H2 := hid (h2.stay (endS_none _) (i + d))
    have O2 := hid (OT.out.trans o2)
    clear h2 o2
    go_wp2_with fail
    go_end0
    exact ⟨⟨_, rfl⟩, by rw [NS.out]; exact H2.out, O2.out⟩
end Go.Proofs.Ytknlhbbkjgkjpaa
