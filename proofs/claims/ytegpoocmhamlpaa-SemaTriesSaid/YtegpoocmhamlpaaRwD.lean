/- Layer 12's fixed fact; RwNone; RwDrops; RwFirst. -/
import Derived.Test.YtegpoocmhamlpaaRwC
namespace Go.Proofs.Ytegpoocmhamlpaa
open Go Go.RowKit

/-- n numbers from f on. -/
def run (f : Int) (n : Nat) : List Int := (List.range n).map fun (i : Nat) => f + i
theorem run_length (f : Int) (n : Nat) : (run f n).length = n := by simp [run]
theorem run_succ (f : Int) (n : Nat) : run f n ++ [f + n] = run f (n + 1) := by simp [run, List.range_succ]
theorem runs_mem (f : Int) (n : Nat) (t : Int) : t ∈ run f n ↔ f ≤ t ∧ t < f + n := by
  simp only [run, List.mem_map, List.mem_range]
  constructor
  · rintro ⟨i, hi, rfl⟩; omega
  · intro h; exact ⟨(t - f).toNat, by omega, by omega⟩

/-- An operation with a guard that lets it run. -/
theorem wpList_asked {P : Program} {ops : Array Oper} {Q : Exit → Act → World → Prop} {a : Act} {w : World} {rest : List Oper} {o : Oper} (hw : Region.wanted o (yielded ops a.tmps) = true)
    (h : ∀ K : Act → World → Prop, (∀ a w, wpList P ops Q rest a w → K a w) → o.wp P a w K Q) : wpList P ops Q (o :: rest) a w := by
  show if _ then _ else _
  rw [if_pos hw]
  exact .inl (h _ fun _ _ h => h)

theorem ReadI.lt {w : World} {v : Value} {l : List Int} (h : ReadI w v l) (hn : l ≠ []) : ∀ k, v.ownBlock = some k → k < w.heap.size := by
  rcases h with ⟨_, _, _, h0⟩ | ⟨g, off, c, rfl, hg, _⟩
  · exact absurd h0 hn
  · intro k hk
    cases hk
    exact hg

theorem rwr_ok {S : RS} {t : Int} (h1 : 1 ≤ t) (hd : S.d ≠ t) (hr : t ∉ S.r) (hw : t ∉ S.w) (hq : t ∉ S.q) : rwr S t = 0 := by
  unfold rwr; rw [if_neg (by omega), if_neg (by simp [hd, hr, hw, hq])]
theorem rtr_busy' {S : RS} {t : Int} (h : rwr S t = 0) (hb : ¬ (S.d = 0 ∧ S.w = [])) : rtr S t = (12, S) := by unfold rtr; rw [if_pos h, if_neg hb]
theorem rlr_wait {S : RS} {t : Int} (h : rwr S t = 0) (hb : ¬ (S.d = 0 ∧ S.w = [])) : rlr S t = (14, { S with q := S.q ++ [t] }) := by unfold rlr; rw [rtr_busy' h hb, if_pos rfl]
theorem rlr_got {S : RS} {t : Int} (h : rwr S t = 0) (hb : S.d = 0 ∧ S.w = []) : rlr S t = (0, { S with r := S.r ++ [t] }) := by
  have e : rtr S t = (0, { S with r := S.r ++ [t] }) := by unfold rtr; rw [if_pos h, if_pos hb]
  unfold rlr; rw [e, if_neg (by simp)]
theorem rlw_wait {S : RS} {t : Int} (h : rwr S t = 0) (hb : ¬ (S.d = 0 ∧ S.r = [])) : rlw S t = (14, { S with w := S.w ++ [t] }) := by
  have e : rtw S t = (12, S) := by unfold rtw; rw [if_pos h, if_neg hb]
  unfold rlw; rw [e, if_pos rfl]

set_option maxRecDepth 10000 in
set_option maxHeartbeats 1000000 in
theorem rawake_any (w : World) : Calls Try.prog 31 #[] w fun en w' => en = .returned (.bool true) ∧ Keep (fun _ => False) w w' := by
  go_enter Try.func31, Try.ntmps31
  go_wp2_with fail
  refine (rnew_any w).mono ?_
  rintro e w1 ⟨rfl, G1, N1⟩
  go_wp2_with fail
  refine (rrlock_any 1 N1 (by decide) (by decide) (e := 0) (S' := ⟨0, [1], [], []⟩) (by decide)).mono ?_
  rintro e w2 ⟨rfl, G2, N2, -, -⟩
  clear N1
  go_wp2_with fail
  refine (rlock_any 2 N2 (by decide) (by decide) (e := 14) (S' := ⟨0, [1], [2], []⟩) (by decide)).mono ?_
  rintro e w3 ⟨rfl, G3, N3, -, -⟩
  clear N2
  go_wp2_with fail
  refine (rrlock_any 3 N3 (by decide) (by decide) (e := 14) (S' := ⟨0, [1], [2], [3]⟩) (by decide)).mono ?_
  rintro e w4 ⟨rfl, G4, N4, -, -⟩
  clear N3
  go_wp2_with fail
  refine (rrunlock_any 1 N4 (by decide) (by decide) (o := [2]) (e := 0) (S' := ⟨2, [], [], [3]⟩) (by decide)).mono ?_
  rintro e w5 ⟨a5, m5, rfl, R5, -, G5, N5, -, Q5⟩
  clear N4
  go_wp2_with fail
  refine (runlock_any 2 N5 (by decide) (by decide) (o := [3]) (e := 0) (S' := ⟨0, [3], [], []⟩) (by decide)).mono ?_
  rintro e w6 ⟨a6, m6, rfl, R6, K6, G6, N6, -, -⟩
  have R5 := hid (R5.keep K6 fun k hk => (Q5 k hk).2.2)
  have R6 := hid R6
  have N6 := hid N6
  clear N5 Q5 K6
  go_wp2_with fail
  refine (ints_any (l := [2]) (m := [2]) (R5.out.keep ((Keep.refl (fun _ => False) _).alloc _) (fun _ _ h => h)) (made_ints w6 [2] (by decide)).reads).mono ?_
  rintro e w7 ⟨rfl, K7⟩
  have k7 : Keep (fun _ => False) w6 w7 := ((Keep.refl _ _).alloc _).trans K7
  have N7 := hid (N6.out.quiet k7)
  have R7 := hid (R6.out.keep k7 fun _ _ h => h)
  rw [show decide ([2] = [(2 : Int)]) = true from by decide]
  clear K7 k7
  go_wp2_with fail
  refine (ints_any (l := [3]) (m := [3]) (R7.out.keep ((Keep.refl (fun _ => False) _).alloc _) (fun _ _ h => h)) (made_ints w7 [3] (by decide)).reads).mono ?_
  rintro e w8 ⟨rfl, K8⟩
  have k8 : Keep (fun _ => False) w7 w8 := ((Keep.refl _ _).alloc _).trans K8
  have N8 := hid (N7.out.quiet k8)
  rw [show decide ([3] = [(3 : Int)]) = true from by decide]
  clear K8 k8
  go_wp2_with fail
  refine (rwriter_any N8.out).mono ?_
  rintro e _ ⟨rfl, rfl⟩
  go_wp2_with fail
  refine (rreaders_any N8.out (by decide)).mono ?_
  rintro e w9 ⟨a9, n9, rfl, R9, N9, -, -⟩
  have R9 := hid R9
  have N9 := hid N9
  go_wp2_with fail
  refine (ints_any (l := [3]) (m := [3]) (R9.out.keep ((Keep.refl (fun _ => False) _).alloc _) (fun _ _ h => h)) (made_ints w9 [3] (by decide)).reads).mono ?_
  rintro e w10 ⟨rfl, K10⟩
  have k10 : Keep (fun _ => False) w9 w10 := ((Keep.refl _ _).alloc _).trans K10
  have N10 := hid (N9.out.quiet k10)
  rw [show decide ([3] = [(3 : Int)]) = true from by decide]
  clear K10 k10
  go_wp2
  go_ret
  exact ⟨rfl, N10.out.2.2⟩

set_option maxRecDepth 10000 in
set_option maxHeartbeats 400000 in
theorem walk_RwNone (w : World) (t : Int) (_ : (Lit.int .i64 t).wf = true) : Calls Try.prog 12 #[.int .i64 t] w fun en w' => en = .returned (.bool true) ∧ Below w.heap.size w w' := by
  go_enter Try.func12, Try.ntmps12
  go_wp2_with fail
  refine (rrunlock_nil t w).mono ?_
  rintro e _ ⟨rfl, rfl⟩
  go_wp2_with fail
  refine (runlock_nil t w).mono ?_
  rintro e _ ⟨rfl, rfl⟩
  go_wp2_with fail
  refine (rdrop_nil t w).mono ?_
  rintro e _ ⟨rfl, rfl⟩
  go_wp2_with fail
  refine (rwaits_nil w).mono ?_
  rintro e _ ⟨rfl, rfl⟩
  go_wp2_with fail
  refine (rawake_any w).mono ?_
  rintro e w2 ⟨rfl, K⟩
  have K := hid K
  go_wp2_with fail
  refine (rrlock_nil t w2).mono ?_
  rintro e _ ⟨rfl, rfl⟩
  go_wp2_with fail
  refine (rtryr_nil t w2).mono ?_
  rintro e _ ⟨rfl, rfl⟩
  go_wp2_with fail
  refine (rlock_nil t w2).mono ?_
  rintro e _ ⟨rfl, rfl⟩
  go_wp2_with fail
  refine (rtry_nil t w2).mono ?_
  rintro e _ ⟨rfl, rfl⟩
  go_wp2_with fail
  refine (rwriter_nil w2).mono ?_
  rintro e _ ⟨rfl, rfl⟩
  go_wp2_with fail
  refine (rreaders_nil w2).mono ?_
  rintro e _ ⟨rfl, rfl⟩
  go_wp2
  go_ret
  exact ⟨rfl, K.out.below (fun _ h => h.elim) (Nat.le_refl _)⟩

theorem drops_1 (q : List Int) : rdp ⟨0, [1], [2], q⟩ 2 = (q, true, ⟨0, 1 :: q, [], []⟩) := by simp [rdp, rhd, dropT]
theorem drops_2 (q : List Int) : rdp ⟨0, 1 :: q, [], []⟩ 2 = ([], false, ⟨0, 1 :: q, [], []⟩) := by simp [rdp]

set_option maxRecDepth 10000 in
set_option maxHeartbeats 4000000 in
theorem walk_RwDrops (w : World) (n : Int) (hn : (Lit.int .u8 n).wf = true) :
    Calls Try.prog 9 #[.int .u8 n] w fun en w' => en = .returned (.bool true) ∧ Below w.heap.size w w' := by
  obtain ⟨M, hM, hM8⟩ := u8_mod n 8 hn (by decide)
  go_enter Try.func9, Try.ntmps9
  go_wp2_with fail
  refine (rnew_any w).mono ?_
  rintro e w1 ⟨rfl, G1, N1⟩
  obtain ⟨b, hb⟩ : ∃ x, w.heap.size = x := ⟨_, rfl⟩
  rw [hb] at N1 ⊢
  go_wp2_with fail
  refine (rrlock_any 1 N1 (by decide) (by decide) (e := 0) (S' := ⟨0, [1], [], []⟩) (by decide)).mono ?_
  rintro e w2 ⟨rfl, G2, N2, -, -⟩
  clear N1
  go_wp2_with fail
  refine (rlock_any 2 N2 (by decide) (by decide) (e := 14) (S' := ⟨0, [1], [2], []⟩) (by decide)).mono ?_
  rintro e w3 ⟨rfl, G3, N3, -, -⟩
  have st0 : OwnI (w3.alloc (.cells #[] 3)) (.slice (some ⟨w3.heap.size, 0, none⟩) 0 0) (run 10 0) := made_rowI w3
  have sd0 : ∀ x, (Value.slice (some ⟨w3.heap.size, 0, none⟩) 0 0).ownBlock = some x → w.heap.size ≤ x ∧ ¬ G3 x := fun x hx => by
    have e := Option.some.inj hx
    dsimp only at e
    exact ⟨by have := N3.2.2.size; omega, fun h => by have := N3.1.2.1 x h; omega⟩
  have N3 := hid (N3.quiet ((Keep.refl _ _).alloc (.cells #[] 3)))
  have ST0 := hid st0
  have SD0 := hid sd0
  clear N2 st0 sd0
  go_wp2_with fail
  go_loopw [6, 7] (fun r i wr => ∃ (k : Nat) (a : Option Addr) (c : Nat) (G : Nat → Prop), k ≤ M ∧ i = .int .i64 k ∧ r = .slice a k c ∧ OwnI wr (.slice a k c) (run 10 k) ∧ MNew 79 w wr G b (rcs ⟨0, [1], [2], run 10 k⟩) ∧ ∀ x, (Value.slice a k c).ownBlock = some x → w.heap.size ≤ x ∧ ¬ G x) (fun _ i _ => M - (intOf i).toNat)
  case atStart => exact ⟨0, _, _, G3, Nat.zero_le _, rfl, rfl, ST0.out, N3.out, SD0.out⟩
  case round =>
    obtain ⟨k, a, c, G, hk, rfl, rfl, hO, hN, hD⟩ := hrel
    have O := hid hO
    have N := hid hN
    have D := hid hD
    clear hO hN hD N3 ST0 SD0
    by_cases hlt : k < M
    · have hlt' : (k : Int) < (M : Int) := by omega
      go_wp2_with fail
      refine (rrlock_any (10 + k) N.out (by simp) (by show (run 10 k).length ≤ 1000; rw [run_length]; omega) (rlr_wait (rwr_ok (by omega) (by show (0 : Int) ≠ _; omega) (by show _ ∉ [_]; simp; omega) (by show _ ∉ [_]; simp; omega) (by show _ ∉ run 10 k; rw [runs_mem]; omega)) (by simp))).mono ?_
      rintro e w4 ⟨rfl, G4, N4, J4, K4⟩
      replace N4 : MNew 79 w w4 G4 b (rcs ⟨0, [1], [2], run 10 (k + 1)⟩) := by rw [← run_succ]; exact N4
      have O4 := O.out.keep K4 (fun x hx => (D.out x hx).2)
      have D4 : ∀ x, (Value.slice a k c).ownBlock = some x → w.heap.size ≤ x ∧ ¬ G4 x := fun x hx => ⟨(D.out x hx).1, fun h => (J4 x h).elim (D.out x hx).2 (fun h => by have := own_lt O.out hx; omega)⟩
      have k5 : Keep (fun _ => False) w4 (w4.alloc (.cells #[.int .i64 (10 + k)] 3)) := (Keep.refl _ _).alloc _
      have O5 := O4.keep k5 (fun _ _ h => h)
      have N5 := hid (N4.quiet k5)
      have hsrc := one_srcI w4 (10 + k)
      have D5 := hid D4
      have hs5 : ∀ x, G4 x → x < w4.heap.size := N4.1.2.1
      have HS5 := hid hs5
      have HW := hid N4.2.2.size
      clear N4 J4 K4 O4 D4 hs5
      go_wp2_with (at_builtin; refine wpList_plain rfl (fun K hK => wp_append_ints _ (.tmp 30) (.tmp 33) rfl _ (run 10 k) rfl O5 _ 1 _ rfl hsrc (by rw [run_length]; omega) ?_))
      intro y w6 o6 f6 k6
      replace o6 : OwnI w6 y (run 10 (k + 1)) := by rw [← run_succ]; exact o6
      obtain ⟨a6, c6, hy⟩ := o6.form
      rw [run_length] at hy
      subst hy
      have N6 := hid (N5.out.keep k6 (fun x hx => D5.out x hx))
      have D6 : ∀ x, (Value.slice a6 (k + 1) c6).ownBlock = some x → w.heap.size ≤ x ∧ ¬ G4 x := fun x hx => (f6 x hx).elim (D5.out x) (fun h => ⟨by have := HW.out; omega, fun hg => by have := HS5.out x hg; omega⟩)
      have O6 := hid o6
      have D6 := hid D6
      refine hK _ _ ?_
      clear hK K o6 f6 k6 hsrc O5 N5 D5 HS5 k5
      go_wp2_with fail
      go_roundw
      case rel => exact ⟨k + 1, a6, c6, G4, by omega, by go_num, rfl, O6.out, N6.out, D6.out⟩
      case measure => simp [intOf]; omega
    obtain rfl : k = M := by omega
    have hlt' : ¬ ((k : Int) < (k : Int)) := by omega
    go_wp2_with fail
    refine (rdrop_any 2 N.out (by show 1 + (run 10 k).length ≤ 1000; rw [run_length]; omega) (by simp) (drops_1 _)).mono ?_
    rintro e w5 ⟨a5, m5, rfl, R5, K5, G5, N5, J5, Q5⟩
    have O5 := O.out.keep K5 (fun x hx => (D.out x hx).2)
    have D5 : ∀ x, (Value.slice a k c).ownBlock = some x → w.heap.size ≤ x ∧ ¬ G5 x := fun x hx => ⟨(D.out x hx).1, fun h => (J5 x h).elim (D.out x hx).2 (fun h => by have := own_lt O.out hx; omega)⟩
    clear N J5 K5 D O
    go_wp2_with fail
    refine (rdrop_any 2 N5 (by show (1 :: run 10 k).length + 0 ≤ 1000; rw [List.length_cons, run_length]; omega) (by simp) (drops_2 _)).mono ?_
    rintro e w6 ⟨a6, m6, rfl, -, K6, G6, N6, J6, -⟩
    have R6 := hid (R5.keep K6 fun x hx => (Q5 x hx).2.2)
    have O6 := hid (O5.keep K6 fun x hx => (D5 x hx).2)
    have N6 := hid N6
    clear N5 J6 K6 D5 O5 R5 Q5
    go_wp2_with fail
    refine (rawake_any w6).mono ?_
    rintro e w7 ⟨rfl, K7⟩
    have N7 := hid (N6.out.quiet K7)
    have R7 := hid (R6.out.keep K7 fun _ _ h => h)
    have O7 := hid (O6.out.keep K7 fun _ _ h => h)
    clear N6 R6 O6 K7
    go_wp2_with fail
    refine (ints_any R7.out O7.out.reads).mono ?_
    rintro e w8 ⟨rfl, K8⟩
    rw [show decide (run 10 k = run 10 k) = true from decide_eq_true rfl]
    have N8 := hid (N7.out.quiet K8)
    have O8 := hid (O7.out.keep K8 fun _ _ h => h)
    clear N7 R7 O7 K8
    go_wp2_with fail
    refine (rreaders_any N8.out (by show (1 :: run 10 k).length ≤ 1000; rw [List.length_cons, run_length]; omega)).mono ?_
    rintro e w9 ⟨a9, n9, rfl, R9, N9, K9, -⟩
    have k10 : Keep (fun _ => False) w9 (w9.alloc (.cells #[.int .i64 1] 3)) := (Keep.refl _ _).alloc _
    have hown : OwnI (w9.alloc (.cells #[.int .i64 1] 3)) (.slice (some ⟨w9.heap.size, 0, none⟩) 1 1) [1] := made_ints w9 [1] (by decide)
    have O10 := (O8.out.keep K9 fun _ _ h => h).keep k10 fun _ _ h => h
    have hsrc := O10.src
    have N10 := hid (N9.quiet k10)
    have R10 := hid (R9.keep k10 fun _ _ h => h)
    have HB := hid (ReadI.lt R9 (by simp))
    have N9S := hid N9.2.2.size
    have N9L := hid N9.1.2.1
    clear N8 O8 N9 R9 K9 k10
    go_wp2_with (at_builtin; refine wpList_asked (by rfl) (fun K hK => wp_append_ints _ (.tmp 69) (.tmp 70) rfl _ [1] rfl hown _ (run 10 k).length _ rfl hsrc (by rw [run_length]; simp; omega) ?_))
    intro y w11 o11 f11 k11
    have R11 := R10.out.keep k11 (fun x hx e => by have := HB.out x hx; have e := Option.some.inj e; dsimp only at e; omega)
    have N11 := hid (N10.out.keep k11 (fun x e => by have e := Option.some.inj e; dsimp only at e; exact ⟨by rw [← e]; exact N9S.out, fun hg => by have := N9L.out x hg; omega⟩))
    obtain ⟨a11, c11, hy⟩ := o11.form
    have O11 := hid o11.reads
    have R11 := hid R11
    rw [hy] at O11
    generalize ([1] ++ run 10 k).length = m11 at hy O11
    subst hy
    refine hK _ _ ?_
    clear hK K o11 f11 k11 hown hsrc O10 N10 R10
    go_wp2_with fail
    refine (ints_any R11.out O11.out).mono ?_
    rintro e w12 ⟨rfl, K12⟩
    rw [show decide (1 :: run 10 k = 1 :: run 10 k) = true from decide_eq_true rfl]
    have N12 := hid (N11.out.quiet K12)
    clear K12
    go_wp2
    go_ret
    exact ⟨rfl, N12.out.2.2.below (fun _ h => h.elim) (Nat.le_refl _)⟩

theorem upTo_drop (n p : Nat) (h : p < n) : (upTo n).drop p = ((p : Int) + 1) :: (upTo n).drop (p + 1) := by
  rw [List.drop_eq_getElem_cons (by rw [upTo_length]; exact h)]
  simp [upTo]

set_option maxRecDepth 10000 in
set_option maxHeartbeats 4000000 in
theorem walk_RwFirst_r (w : World) (n : Int) (hn : (Lit.int .u8 n).wf = true) (g : Int) (hg : (Lit.int .u8 g).wf = true) :
    Calls Try.prog 8 #[.int .u8 n, .int .u8 g, .bool false] w fun en w' => en = .returned (.bool true) ∧ Below w.heap.size w w' := by
  obtain ⟨K, hK, hK6⟩ := u8_mod n 6 hn (by decide)
  obtain ⟨M, hM, hM6⟩ := u8_mod g 6 hg (by decide)
  go_enter Try.func8, Try.ntmps8
  go_wp2_with fail
  refine (rnew_any w).mono ?_
  rintro e w1 ⟨rfl, G1, N1⟩
  obtain ⟨b, hb⟩ : ∃ x, w.heap.size = x := ⟨_, rfl⟩
  rw [hb] at N1 ⊢
  have N1 := hid N1
  go_wp2_with fail
  go_loopw [8, 9] (fun nn i wr => ∃ (q : Nat) (G : Nat → Prop), q ≤ K + 1 ∧ nn = .int .i64 (1 + K) ∧ i = .int .i64 (q + 1) ∧ MNew 79 w wr G b (rcs ⟨0, upTo q, [], []⟩)) (fun _ i _ => 60 - (intOf i).toNat)
  case atStart => exact ⟨0, G1, Nat.zero_le _, rfl, rfl, N1.out⟩
  case round =>
    obtain ⟨q, G, hq, rfl, rfl, hN⟩ := hrel
    have N := hid hN
    clear hN N1
    by_cases hlt : q < K + 1
    · have hlt' : (q : Int) + 1 ≤ 1 + (K : Int) := by omega
      go_wp2_with fail
      refine (rrlock_any (q + 1) N.out (by show (upTo q).length ≤ 1000; rw [upTo_length]; omega) (by simp) (rlr_got (rwr_ok (by omega) (by show (0 : Int) ≠ _; omega) (by show _ ∉ upTo q; rw [upTo_in]; omega) (by simp) (by simp)) (by simp))).mono ?_
      rintro e w4 ⟨rfl, G4, N4, -, -⟩
      replace N4 : MNew 79 w w4 G4 b (rcs ⟨0, upTo (q + 1), [], []⟩) := by rw [← upTo_succ]; exact N4
      have N4 := hid N4
      go_wp2_with fail
      go_roundw
      case rel => exact ⟨q + 1, G4, by omega, rfl, by go_num, N4.out⟩
      case measure => simp [intOf]; omega
    obtain rfl : q = K + 1 := by omega
    have hlt' : ¬ (((K + 1 : Nat) : Int) + 1 ≤ 1 + (K : Int)) := by omega
    go_wp2_with fail
    refine (rlock_any 50 N.out (by simp [upTo_length]; try omega) (by simp) (rlw_wait (rwr_ok (by decide) (by simp) (by show _ ∉ upTo (K + 1); rw [upTo_in]; omega) (by simp) (by simp)) (by simp [upTo]; try omega))).mono ?_
    rintro e w4 ⟨rfl, G4, N4, -, -⟩
    replace N4 : MNew 79 w w4 G4 b (rcs ⟨0, (upTo (K + 1)), [50], run 60 0⟩) := N4
    have N4 := hid N4
    clear N
    go_wp2_with fail
    go_loopw [10] (fun i wr => ∃ (k : Nat) (G : Nat → Prop), k ≤ M ∧ i = .int .i64 k ∧ MNew 79 w wr G b (rcs ⟨0, (upTo (K + 1)), [50], run 60 k⟩)) (fun i _ => M - (intOf i).toNat)
    case atStart => exact ⟨0, G4, Nat.zero_le _, rfl, N4.out⟩
    case round =>
      obtain ⟨k, G, hk, rfl, hN⟩ := hrel
      have N := hid hN
      clear hN N4
      by_cases hlt : k < M
      · have hlt' : (k : Int) < (M : Int) := by omega
        go_wp2_with fail
        refine (rrlock_any (60 + k) N.out (by simp [upTo_length]; try omega) (by show (run 60 k).length ≤ 1000; rw [run_length]; omega) (rlr_wait (rwr_ok (by omega) (by show (0 : Int) ≠ _; omega) (by show _ ∉ upTo (K + 1); rw [upTo_in]; omega) (by show _ ∉ [_]; simp; omega) (by show _ ∉ run 60 k; rw [runs_mem]; omega)) (by simp))).mono ?_
        rintro e w5 ⟨rfl, G5, N5, -, -⟩
        replace N5 : MNew 79 w w5 G5 b (rcs ⟨0, (upTo (K + 1)), [50], run 60 (k + 1)⟩) := by rw [← run_succ]; exact N5
        clear N
        go_wp2_with fail
        refine (rtryr_any 90 N5 (by simp [upTo_length]; try omega) (rtr_busy' (rwr_ok (by decide) (by simp) (by show _ ∉ upTo (K + 1); rw [upTo_in]; omega) (by simp) (by show _ ∉ run 60 (k + 1); rw [runs_mem]; omega)) (by simp))).mono ?_
        rintro e w6 ⟨rfl, G6, N6, -, -⟩
        have N6 := hid N6
        clear N5
        go_wp2_with fail
        go_roundw
        case rel => exact ⟨k + 1, G6, by omega, by go_num, N6.out⟩
        case measure => simp [intOf]; omega
      obtain rfl : k = M := by omega
      have hlt' : ¬ ((k : Int) < (k : Int)) := by omega
      go_wp2_with fail
      go_loopw [11] (fun i wr => ∃ (p : Nat) (G : Nat → Prop), p ≤ K + 1 ∧ i = .int .i64 (p + 1) ∧ MNew 79 w wr G b (rcs (if p ≤ K then ⟨0, (upTo (K + 1)).drop p, [50], run 60 k⟩ else ⟨50, [], [], run 60 k⟩))) (fun i _ => 60 - (intOf i).toNat)
      case atStart => exact ⟨0, G, Nat.zero_le _, rfl, N.out⟩
      case round =>
        obtain ⟨p, G, hp, rfl, hI⟩ := hrel
        have I := hid hI
        clear hI N
        by_cases hpl : p < K + 1
        · have hpl' : (p : Int) + 1 ≤ 1 + (K : Int) := by omega
          have I0 := I.out
          rw [if_pos (by omega), upTo_drop (K + 1) p hpl] at I0
          have hdl : ((upTo (K + 1)).drop (p + 1)).length = K - p := by rw [List.length_drop, upTo_length]; omega
          by_cases hpk : p < K
          · have hp1 : (p : Int) + 1 < 1 + (K : Int) := by omega
            have hp2 : ((p : Int) + 1 == 1 + (K : Int)) = false := by simp; omega
            have hne : (upTo (K + 1)).drop (p + 1) ≠ [] := fun e => by rw [e] at hdl; simp at hdl; omega
            go_wp2_with fail
            refine (rrunlock_any (p + 1) I0 (by show (((p : Int) + 1) :: (upTo (K + 1)).drop (p + 1)).length + (run 60 k).length ≤ 1000; rw [List.length_cons, hdl, run_length]; omega) (by simp) (o := []) (e := 0) (S' := ⟨0, (upTo (K + 1)).drop (p + 1), [50], run 60 k⟩) (by simp [rru, rhd, dropT, hne]; omega)).mono ?_
            rintro e w7 ⟨a7, m7, rfl, R7, -, G7, N7, -, -⟩
            have N7 := hid N7
            clear I I0 hne hdl R7
            go_wp2_with fail
            go_roundw
            case rel => exact ⟨p + 1, G7, by omega, by go_num, by rw [if_pos (by omega)]; exact N7.out⟩
            case measure => simp [intOf]; omega
          · obtain rfl : p = K := by omega
            have hp1 : ¬ ((p : Int) + 1 < 1 + (p : Int)) := by omega
            have hp2 : ((p : Int) + 1 == 1 + (p : Int)) = true := by simp; omega
            have hne : (upTo (p + 1)).drop (p + 1) = [] := List.eq_nil_of_length_eq_zero (by omega)
            rw [hne] at I0
            go_wp2_with fail
            refine (rrunlock_any (p + 1) I0 (by simp [run_length]; omega) (by simp) (o := [50]) (e := 0) (S' := ⟨50, [], [], run 60 k⟩) (by simp [rru, rhd, dropT]; omega)).mono ?_
            rintro e w7 ⟨a7, m7, rfl, R7, -, G7, N7, -, -⟩
            have N7 := hid N7
            have R7 := hid R7
            clear I I0 hne hdl
            go_wp2_with fail
            refine (ints_any (l := [50]) (m := [50]) (R7.out.keep ((Keep.refl (fun _ => False) _).alloc _) (fun _ _ h => h)) (made_ints w7 [50] (by decide)).reads).mono ?_
            rintro e w8 ⟨rfl, K8⟩
            rw [show decide ([50] = [(50 : Int)]) = true from by decide]
            have k8 : Keep (fun _ => False) w7 w8 := ((Keep.refl _ _).alloc _).trans K8
            have N8 := hid (N7.out.quiet k8)
            clear K8 k8 R7
            go_wp2_with fail
            go_roundw
            case rel => exact ⟨p + 1, G7, by omega, by go_num, by rw [if_neg (by omega)]; exact N8.out⟩
            case measure => simp [intOf]; omega
        obtain rfl : p = K + 1 := by omega
        have hpl' : ¬ (((K + 1 : Nat) : Int) + 1 ≤ 1 + (K : Int)) := by omega
        have I0 := I.out
        rw [if_neg (by omega)] at I0
        have I := hid I0
        clear I0
        have QL := hid (run_length 60 k)
        go_wp2_with fail
        refine (runlock_any 50 I.out (by simp [run_length]; omega) (by simp) (o := run 60 k) (e := 0) (S' := ⟨0, run 60 k, [], []⟩) (by simp [rwu, rhd])).mono ?_
        rintro e w7 ⟨a7, m7, rfl, R7, -, G7, N7, -, -⟩
        rw [run_length] at R7 ⊢
        have N7 := hid N7
        clear I R7
        go_wp2_with fail
        refine (rawake_any w7).mono ?_
        rintro e w8 ⟨rfl, K8⟩
        have N8 := hid (N7.out.quiet K8)
        clear N7 K8
        go_wp2_with fail
        refine (rreaders_any N8.out (by show (run 60 k).length ≤ 1000; rw [run_length]; omega)).mono ?_
        rintro e w9 ⟨a9, n9, rfl, -, N9, -, -⟩
        have N9 := hid N9
        rw [show (⟨0, run 60 k, [], []⟩ : RS).r.length = k from run_length 60 k]
        go_wp2
        go_ret
        exact ⟨rfl, N9.out.2.2.below (fun _ h => h.elim) (Nat.le_refl _)⟩
set_option maxRecDepth 10000 in
set_option maxHeartbeats 4000000 in
theorem walk_RwFirst_w (w : World) (n : Int) (hn : (Lit.int .u8 n).wf = true) (g : Int) (hg : (Lit.int .u8 g).wf = true) :
    Calls Try.prog 8 #[.int .u8 n, .int .u8 g, .bool true] w fun en w' => en = .returned (.bool true) ∧ Below w.heap.size w w' := by
  obtain ⟨K, hK, hK6⟩ := u8_mod n 6 hn (by decide)
  obtain ⟨M, hM, hM6⟩ := u8_mod g 6 hg (by decide)
  go_enter Try.func8, Try.ntmps8
  go_wp2_with fail
  refine (rnew_any w).mono ?_
  rintro e w1 ⟨rfl, G1, N1⟩
  obtain ⟨b, hb⟩ : ∃ x, w.heap.size = x := ⟨_, rfl⟩
  rw [hb] at N1 ⊢
  have N1 := hid N1
  go_wp2_with fail
  go_loopw [8, 9] (fun nn i wr => ∃ (q : Nat) (G : Nat → Prop), (q = 0 ∧ nn = .int .i64 (1 + K) ∧ i = .int .i64 1 ∧ MNew 79 w wr G b (rcs ⟨0, [], [], []⟩)) ∨ (q = 1 ∧ nn = .int .i64 1 ∧ i = .int .i64 2 ∧ MNew 79 w wr G b (rcs ⟨1, [], [], []⟩))) (fun _ i _ => 60 - (intOf i).toNat)
  case atStart => exact ⟨0, G1, .inl ⟨rfl, rfl, rfl, N1.out⟩⟩
  case round =>
    obtain ⟨q, G, ⟨rfl, rfl, rfl, hN⟩ | ⟨rfl, rfl, rfl, hN⟩⟩ := hrel
    · have N := hid hN
      clear hN N1
      have hlt' : (1 : Int) ≤ 1 + (K : Int) := by omega
      go_wp2_with fail
      refine (rlock_any 1 N.out (by simp) (by simp) (e := 0) (S' := ⟨1, [], [], []⟩) (by decide)).mono ?_
      rintro e w4 ⟨rfl, G4, N4, -, -⟩
      have N4 := hid N4
      go_wp2_with fail
      go_roundw
      case rel => exact ⟨1, G4, .inr ⟨rfl, rfl, rfl, N4.out⟩⟩
      case measure => simp [intOf]
    have N := hid hN
    clear hN N1
    go_wp2_with fail
    refine (rlock_any 50 N.out (by simp [List.length_nil]; try omega) (by simp) (rlw_wait (rwr_ok (by decide) (by simp) (by simp) (by simp) (by simp)) (by simp [upTo]; try omega))).mono ?_
    rintro e w4 ⟨rfl, G4, N4, -, -⟩
    replace N4 : MNew 79 w w4 G4 b (rcs ⟨1, [], [50], run 60 0⟩) := N4
    have N4 := hid N4
    clear N
    go_wp2_with fail
    go_loopw [10] (fun i wr => ∃ (k : Nat) (G : Nat → Prop), k ≤ M ∧ i = .int .i64 k ∧ MNew 79 w wr G b (rcs ⟨1, [], [50], run 60 k⟩)) (fun i _ => M - (intOf i).toNat)
    case atStart => exact ⟨0, G4, Nat.zero_le _, rfl, N4.out⟩
    case round =>
      obtain ⟨k, G, hk, rfl, hN⟩ := hrel
      have N := hid hN
      clear hN N4
      by_cases hlt : k < M
      · have hlt' : (k : Int) < (M : Int) := by omega
        go_wp2_with fail
        refine (rrlock_any (60 + k) N.out (by simp [List.length_nil]; try omega) (by show (run 60 k).length ≤ 1000; rw [run_length]; omega) (rlr_wait (rwr_ok (by omega) (by show (1 : Int) ≠ _; omega) (by simp) (by show _ ∉ [_]; simp; omega) (by show _ ∉ run 60 k; rw [runs_mem]; omega)) (by simp))).mono ?_
        rintro e w5 ⟨rfl, G5, N5, -, -⟩
        replace N5 : MNew 79 w w5 G5 b (rcs ⟨1, [], [50], run 60 (k + 1)⟩) := by rw [← run_succ]; exact N5
        clear N
        go_wp2_with fail
        refine (rtryr_any 90 N5 (by simp [List.length_nil]; try omega) (rtr_busy' (rwr_ok (by decide) (by simp) (by simp) (by simp) (by show _ ∉ run 60 (k + 1); rw [runs_mem]; omega)) (by simp))).mono ?_
        rintro e w6 ⟨rfl, G6, N6, -, -⟩
        have N6 := hid N6
        clear N5
        go_wp2_with fail
        go_roundw
        case rel => exact ⟨k + 1, G6, by omega, by go_num, N6.out⟩
        case measure => simp [intOf]; omega
      obtain rfl : k = M := by omega
      have hlt' : ¬ ((k : Int) < (k : Int)) := by omega
      go_wp2_with fail
      go_loopw [11] (fun i wr => ∃ (p : Nat) (G : Nat → Prop), (p = 0 ∧ i = .int .i64 1 ∧ MNew 79 w wr G b (rcs ⟨1, [], [50], run 60 k⟩)) ∨ (p = 1 ∧ i = .int .i64 2 ∧ MNew 79 w wr G b (rcs ⟨50, [], [], run 60 k⟩))) (fun i _ => 60 - (intOf i).toNat)
      case atStart => exact ⟨0, G, .inl ⟨rfl, rfl, N.out⟩⟩
      case round =>
        obtain ⟨p, G, ⟨rfl, rfl, hI⟩ | ⟨rfl, rfl, hI⟩⟩ := hrel
        · have I := hid hI
          clear hI N
          go_wp2_with fail
          refine (rrunlock_any 1 I.out (by simp [run_length]; omega) (by simp) (o := []) (e := 11) (S' := ⟨1, [], [50], run 60 k⟩) (by simp [rru])).mono ?_
          rintro e w6 ⟨a6, m6, rfl, -, -, G6, N6, -, -⟩
          have N6 := hid N6
          clear I
          go_wp2_with fail
          refine (runlock_any 1 N6.out (by simp [run_length]; omega) (by simp) (o := [50]) (e := 0) (S' := ⟨50, [], [], run 60 k⟩) (by simp [rwu, rhd])).mono ?_
          rintro e w7 ⟨a7, m7, rfl, R7, -, G7, N7, -, -⟩
          have N7 := hid N7
          have R7 := hid R7
          clear N6
          go_wp2_with fail
          refine (ints_any (l := [50]) (m := [50]) (R7.out.keep ((Keep.refl (fun _ => False) _).alloc _) (fun _ _ h => h)) (made_ints w7 [50] (by decide)).reads).mono ?_
          rintro e w8 ⟨rfl, K8⟩
          rw [show decide ([50] = [(50 : Int)]) = true from by decide]
          have k8 : Keep (fun _ => False) w7 w8 := ((Keep.refl _ _).alloc _).trans K8
          have N8 := hid (N7.out.quiet k8)
          clear K8 k8 R7
          go_wp2_with fail
          go_roundw
          case rel => exact ⟨1, G7, .inr ⟨rfl, rfl, N8.out⟩⟩
          case measure => simp [intOf]
        have I := hid hI
        clear hI N
        have QL := hid (run_length 60 k)
        go_wp2_with fail
        refine (runlock_any 50 I.out (by simp [run_length]; omega) (by simp) (o := run 60 k) (e := 0) (S' := ⟨0, run 60 k, [], []⟩) (by simp [rwu, rhd])).mono ?_
        rintro e w7 ⟨a7, m7, rfl, R7, -, G7, N7, -, -⟩
        rw [run_length] at R7 ⊢
        have N7 := hid N7
        clear I R7
        go_wp2_with fail
        refine (rawake_any w7).mono ?_
        rintro e w8 ⟨rfl, K8⟩
        have N8 := hid (N7.out.quiet K8)
        clear N7 K8
        go_wp2_with fail
        refine (rreaders_any N8.out (by show (run 60 k).length ≤ 1000; rw [run_length]; omega)).mono ?_
        rintro e w9 ⟨a9, n9, rfl, -, N9, -, -⟩
        have N9 := hid N9
        rw [show (⟨0, run 60 k, [], []⟩ : RS).r.length = k from run_length 60 k]
        go_wp2
        go_ret
        exact ⟨rfl, N9.out.2.2.below (fun _ h => h.elim) (Nat.le_refl _)⟩
theorem walk_RwFirst (w : World) (n : Int) (hn : (Lit.int .u8 n).wf = true) (g : Int) (hg : (Lit.int .u8 g).wf = true) (x : Bool) :
    Calls Try.prog 8 #[.int .u8 n, .int .u8 g, .bool x] w fun en w' => en = .returned (.bool true) ∧ Below w.heap.size w w' := by
  cases x
  · exact walk_RwFirst_r w n hn g hg
  · exact walk_RwFirst_w w n hn g hg
end Go.Proofs.Ytegpoocmhamlpaa
