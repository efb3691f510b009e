/- The walks of the reference's Cond: Waits, Signal, Wait. -/
import Derived.Test.YtcbnbnlioajadaaCndE
namespace Go.Proofs.Ytcbnbnlioajadaa
open Go Go.RowKit

section
variable {w0 w : World} {G : Nat → Prop} {b : Nat} {E : List (Int × Bool)}

set_option maxHeartbeats 2000000 in
theorem xwaits_any (h : MNew 29 w0 w G b (ecs E)) (hn : E.length ≤ 1000) :
    Calls Try.prog 17 #[.pointer (some ⟨b, 0, none⟩)] w fun en w' => ∃ a n, en = .returned (.slice a (liveE E).length n) ∧ OwnI w' (.slice a (liveE E).length n) (liveE E) ∧ (∀ k, (Value.slice a (liveE E).length n).ownBlock = some k → w.heap.size ≤ k) ∧ Keep (fun _ => False) w w' := by
  by_cases h0 : 0 < E.length
  · obtain ⟨gA, cA, gH, cH, hE, -, -, -, -, -, hmx⟩ := h.eat h0
    have HE := hid hE
    have HLL := hid (live_len E)
    unfold maxLen at hmx
    have I0 := hid (made_rowI w)
    have KA : Keep (fun _ => False) w (w.alloc (.cells #[] 3)) := (Keep.refl _ _).alloc _
    have KA := hid KA
    clear hE h
    go_enter Try.func17, Try.ntmps17
    go_wp2
    go_loopw [3, 4] (fun o i wr => ∃ (k : Nat) (a : Option Addr) (n : Nat), k ≤ E.length ∧ i = .int .i64 k ∧ o = .slice a (liveE (E.take k)).length n ∧ OwnI wr (.slice a (liveE (E.take k)).length n) (liveE (E.take k)) ∧ (∀ x, (Value.slice a (liveE (E.take k)).length n).ownBlock = some x → w.heap.size ≤ x) ∧ Keep (fun _ => False) w wr) (fun _ i _ => E.length - (intOf i).toNat)
    case atStart => exact ⟨0, _, _, by omega, rfl, rfl, I0.out, fun x hx => by have := Option.some.inj hx; dsimp only at this; omega, KA.out⟩
    case round =>
      obtain ⟨k, a, n, hk, rfl, rfl, hO, hF, hK⟩ := hrel
      have HO := hid hO
      have HF := hid hF
      have HK := hid hK
      have E2 := HE.out.keep hK (fun h => h) (fun h => h) (fun h => h)
      have c0 := E2.c0
      have c1 := E2.c1
      clear hO hF
      by_cases hlt : k < E.length
      · have k1 := E2.a k hlt
        have k2 := E2.h k hlt
        have HT := hid (live_take E k hlt)
        have HL := hid (live_len (E.take k))
        obtain ⟨x, hx⟩ : ∃ x, eA E k = x := ⟨_, rfl⟩
        obtain ⟨y, hy⟩ : ∃ y, eH E k = y := ⟨_, rfl⟩
        rw [hx] at k1 HT
        rw [hy] at k2 HT
        obtain ⟨L, hL⟩ : ∃ L, liveE (E.take k) = L := ⟨_, rfl⟩
        have hLk : L.length ≤ k := by have := HL.out; rw [hL, List.length_take] at this; omega
        rw [hL] at HO HF HT ⊢
        clear hx hy hL HL E2 hK
        cases y
        · have HT' : liveE (E.take (k + 1)) = L ++ [] := HT.out
          rw [List.append_nil] at HT'
          have HT2 := hid HT'
          clear HT' HT
          go_wp2
          go_roundw
          case rel => exact ⟨k + 1, a, n, by omega, by go_num, by rw [HT2.out], by rw [HT2.out]; exact HO.out, by rw [HT2.out]; exact HF.out, HK.out⟩
          case measure => simp [intOf]; omega
        · have HT' : liveE (E.take (k + 1)) = L ++ [x] := HT.out
          have HT2 := hid HT'
          clear HT' HT
          have ka : Keep (fun _ => False) wr (wr.alloc (.cells #[.int .i64 x] 3)) := (Keep.refl _ _).alloc _
          have hown := HO.out.keep ka (fun _ _ h => h)
          have hsrc := one_srcI wr x
          go_wp2_with (at_builtin; refine wpList_plain rfl (fun K hK => wp_append_ints _ (.tmp 22) (.tmp 30) rfl _ L rfl hown _ 1 _ rfl hsrc (by omega) ?_))
          intro v2 W2 o2 f2 k2'
          have KF := (HK.out.trans ka).then k2' (fun z hz => .inr (HF.out z hz))
          have FF : ∀ z, v2.ownBlock = some z → w.heap.size ≤ z := fun z hz => (f2 z hz).elim (HF.out z) (fun h => Nat.le_trans (HK.out.trans ka).size (by rw [World.size_alloc]; exact h))
          obtain ⟨a2, n2, hv2⟩ := o2.form
          rw [← HT2.out] at o2 hv2
          rw [hv2] at o2 FF
          have O2 := hid o2
          have F2 := hid FF
          have K2 := hid KF
          obtain ⟨m2, hm2⟩ : ∃ m, (liveE (E.take (k + 1))).length = m := ⟨_, rfl⟩
          rw [hm2] at hv2
          have HM := hid hm2
          subst hv2
          refine hK _ _ ?_
          clear hK K o2 f2 k2' KF FF hsrc hown ka hm2
          go_wp2
          obtain rfl := HM.out
          go_roundw
          case rel => exact ⟨k + 1, a2, n2, by omega, by go_num, rfl, O2.out, F2.out, K2.out⟩
          case measure => simp [intOf]; omega
      · have he : E.take k = E := List.take_of_length_le (by omega)
        rw [he] at HO HF ⊢
        clear hK E2 he
        go_wp2
        go_ret
        exact ⟨a, n, rfl, HO.out, HF.out, HK.out⟩
  · have e : E = [] := List.eq_nil_of_length_eq_zero (by omega)
    subst e
    obtain ⟨a, c, a', c', c0, c1⟩ := h.nils
    have hb := h.1.2.1 b h.1.1
    have I0 := hid (made_rowI w)
    clear h
    go_enter Try.func17, Try.ntmps17
    go_wp2
    refine wp_loop_once ?_
    go_wp2
    go_ret
    exact ⟨_, _, rfl, I0.out, fun x hx => by have := Option.some.inj hx; dsimp only at this; omega, (Keep.refl _ _).alloc _⟩

theorem xwaits_keep {w' : World} (h : MNew 29 w0 w G b (ecs E)) (hK : Keep (fun _ => False) w w') : MNew 29 w0 w' G b (ecs E) := h.quiet hK

set_option maxHeartbeats 2000000 in
theorem xsignal_nil (hl : liveE E = []) (h : MNew 29 w0 w G b (ecs E)) (hn : E.length ≤ 1000) :
    Calls Try.prog 16 #[.pointer (some ⟨b, 0, none⟩)] w fun en w' => en = .returned (.tuple #[.int .i64 0, .bool false]) ∧ Keep (fun _ => False) w w' := by
  have HL := hid hl
  clear hl
  go_enter Try.func16, Try.ntmps16
  go_wp2_with fail
  refine (xwaits_any h hn).mono ?_
  rintro _ w1 ⟨a, n, rfl, -, -, K1⟩
  rw [HL.out]
  have K1 := hid K1
  go_wp2
  go_ret2
  exact ⟨rfl, K1.out⟩

set_option maxHeartbeats 2000000 in
theorem xsignal_cons (x : Int) (l : List Int) (hl : liveE E = x :: l) (hI : InvE E) (h : MNew 29 w0 w G b (ecs E)) (hn : E.length ≤ 1000) :
    Calls Try.prog 16 #[.pointer (some ⟨b, 0, none⟩)] w fun en w' => en = .returned (.tuple #[.int .i64 x, .bool true]) ∧ ∃ E', E'.length = E.length ∧ InvE E' ∧ liveE E' = l ∧ StepM 29 w0 G w w' b (ecs E') := by
  have HL := hid hl
  rcases drop_cases E x with ⟨-, i, hi, hA, hH, hno, hset⟩ | ⟨hm, -⟩
  · have HI := hid (inv_set hI i x hi hA)
    have HS : Hid (liveE (E.set i (x, false)) = l) := hid (by rw [hset, hl]; simp [dropT])
    have HA := hid hA
    have HHH := hid hH
    have NO := hid hno
    have HE := hid h
    clear hl hI hset hA hH hno
    go_enter Try.func16, Try.ntmps16
    go_wp2_with fail
    refine (xwaits_any h hn).mono ?_
    rintro _ w1 ⟨a, n, rfl, o1, f1, K1⟩
    rw [HL.out] at o1 f1 ⊢
    obtain ⟨g, c, hv, lg, -, hmx, hcell⟩ := ownI_cells o1 (by simp)
    simp only [Value.slice.injEq] at hv
    obtain ⟨rfl, -, rfl⟩ := hv
    have q0 : w1.cell? ⟨g, 0, none⟩ = some (.int .i64 x) := hcell 0 (by simp)
    have hpos : 0 < l.length + 1 := by omega
    have hz : ((l.length : Int) + 1 == 0) = false := by simp only [beq_eq_false_iff_ne, ne_eq]; omega
    have N1 := hid (HE.out.quiet K1)
    have gG : ¬ G g := fun hg => by have := f1 g rfl; have := HE.out.1.2.1 g hg; omega
    have HK := hid K1
    simp only [List.length_cons] at hmx
    unfold maxLen at hmx
    clear hcell o1 f1 K1 h
    go_wp2_with fail
    refine wp_region_text [0,0,0,0,0,0,0,2,0,0] (fun W => W.cell? ⟨g, 0, none⟩ = some (.int .i64 x)) (by kernel_rfl) (by kernel_rfl) q0 ?_
    repeat (first
      | (refine' wpT_calm (v := _) (by rfl) (fun W hW => ?_) ?_; rotate_left
         · ((try dsimp only at hW); go_simp; first | done | rfl)
         simp only [Act.put, List.setIfInBounds_toArray, List.set_cons_zero, List.set_cons_succ])
      | (refine' wpT_reads (v := _) (by rfl) ?_ ?_; rotate_left
         · (go_simp; first | done | rfl)
         simp only [Act.put, List.setIfInBounds_toArray, List.set_cons_zero, List.set_cons_succ])
      | (refine wpT_skip (by rfl) rfl ?_; simp only [Act.put, List.setIfInBounds_toArray, List.set_cons_zero, List.set_cons_succ])
      | (refine wpT_does (by rfl) (fun K hK => ?_); go_simp; refine hK _ _ ?_ ?_
         · (trivial)
         clear hK K; try simp only [Act.put, List.setIfInBounds_toArray, List.set_cons_zero, List.set_cons_succ])
      | (refine wpT_last (by rfl) (fun K hK => ?_); go_simp; refine hK _ _ ?_; clear hK K)
      | (refine wpT_nil ?_))
    refine wpT_does (by rfl) (fun K hK => ?_)
    go_simp
    have N2 := N1.out.quiet (w' := w1.drew) ((Keep.refl _ _).drew)
    refine (xdrop_in x i hi HA.out HHH.out NO.out N2 hn).mono ?_
    rintro _ W3 ⟨rfl, G3, N3, J3, K3⟩
    have q3 := (K3.cell (p := ⟨g, 0, none⟩) lg gG).trans q0
    have FIN : Hid (StepM 29 w0 G w W3 b (ecs (E.set i (x, false)))) := hid ⟨G3, N3, fun k hk => (J3 k hk).elim .inl (fun h => .inr (Nat.le_trans HK.out.size h)), (HK.out.mono fun _ _ h => h.elim).trans (((Keep.refl _ _).drew).trans K3)⟩
    refine hK _ _ q3 ?_
    clear hK K N3 J3 K3 N2
    try simp only [Act.put, List.setIfInBounds_toArray, List.set_cons_zero, List.set_cons_succ]
    repeat (first
      | (refine' wpT_calm (v := _) (by rfl) (fun W hW => ?_) ?_; rotate_left
         · ((try dsimp only at hW); go_simp; first | done | rfl)
         simp only [Act.put, List.setIfInBounds_toArray, List.set_cons_zero, List.set_cons_succ])
      | (refine' wpT_reads (v := _) (by rfl) ?_ ?_; rotate_left
         · (go_simp; first | done | rfl)
         simp only [Act.put, List.setIfInBounds_toArray, List.set_cons_zero, List.set_cons_succ])
      | (refine wpT_skip (by rfl) rfl ?_; simp only [Act.put, List.setIfInBounds_toArray, List.set_cons_zero, List.set_cons_succ])
      | (refine wpT_does (by rfl) (fun K hK => ?_); go_simp; refine hK _ _ ?_ ?_
         · (trivial)
         clear hK K; try simp only [Act.put, List.setIfInBounds_toArray, List.set_cons_zero, List.set_cons_succ])
      | (refine wpT_last (by rfl) (fun K hK => ?_); go_simp; refine hK _ _ ?_; clear hK K)
      | (refine wpT_nil ?_))
    go_wp2
    go_ret2
    exact ⟨rfl, _, List.length_set, HI.out, HS.out, FIN.out⟩
  · exact absurd (by rw [hl]; simp) hm

set_option maxHeartbeats 1000000 in
theorem xwait_lo (t : Int) (ht : t < 1) (w : World) :
    Calls Try.prog 21 #[.pointer (some ⟨b, 0, none⟩), .int .i64 t] w fun en w' => en = .returned (.int .i64 1) ∧ w = w' := by
  go_enter Try.func21, Try.ntmps21
  go_wp2
  go_ret
  exact ⟨rfl, rfl⟩

set_option maxHeartbeats 2000000 in
theorem xwait_in (t : Int) (ht : 1 ≤ t) (hm : t ∈ liveE E) (hI : InvE E) (h : MNew 29 w0 w G b (ecs E)) (hn : E.length ≤ 1000) :
    Calls Try.prog 21 #[.pointer (some ⟨b, 0, none⟩), .int .i64 t] w fun en w' => en = .returned (.int .i64 11) ∧ StepM 29 w0 G w w' b (ecs E) := by
  rcases drop_cases E t with ⟨-, i, hi, hA, hH, hno, hset⟩ | ⟨hm', -⟩
  · have HLAST : Hid (∀ j, i < j → j < E.length → eA E j ≠ t) := hid fun j hij hj e => inv_iff.1 hI i j hij hj hH (by rw [hA, e])
    have HA := hid hA
    have HHH := hid hH
    have NO := hid hno
    clear hm hI hA hH hno hset
    go_enter Try.func21, Try.ntmps21
    go_wp2_with fail
    refine (xdrop_in t i hi HA.out HHH.out NO.out h hn).mono ?_
    rintro _ w1 ⟨rfl, G1, N1, J1, K1⟩
    have hi1 : i < (E.set i (t, false)).length := by rw [List.length_set]; exact hi
    obtain ⟨gA, cA, gH, cH, hE, -, -, -, -, -, hmx⟩ := N1.eat (by omega)
    have hset := N1.set i hi1 t (by rw [eA_set E i t false hi HA.out]; exact HA.out) true hE
    have e2 : (E.set i (t, false)).set i (t, true) = E := by
      rw [List.set_set]
      refine List.ext_getElem (by simp) fun j h1 h2 => ?_
      rw [List.getElem_set]
      split
      · rename_i e
        subst e
        have a1 := eA_get E i hi
        have a2 := eH_get E i hi
        rw [HA.out] at a1
        rw [HHH.out] at a2
        exact Prod.ext a1 a2
      · rfl
    rw [e2] at hset
    have FIN := hid (StepM.trans ⟨N1, J1, K1⟩ hset)
    have c0 := hE.c0
    have c1 := hE.c1
    have fH := hE.fH i
    have CA : Hid (∀ j, j < E.length → w1.cell? ⟨gA, j, none⟩ = some (.int .i64 (eA E j))) := hid fun j hj => by have := hE.a j (by rw [List.length_set]; exact hj); rwa [eA_set E i t false hi HA.out] at this
    have k3 := hE.h i hi1
    rw [List.length_set] at c0 c1 hmx
    unfold maxLen at hmx
    clear hE hset e2 N1 J1 K1 hi1
    go_wp2
    go_loop [5] (fun i' => ∃ k : Nat, i ≤ k ∧ k < E.length ∧ i' = .int .i64 k) (fun i' => (intOf i').toNat)
    case atStart => exact ⟨E.length - 1, by omega, by omega, by first | rfl | (congr 1; omega)⟩
    case round =>
      obtain ⟨k, hik, hk, rfl⟩ := hrel
      have k1 := CA.out k hk
      by_cases hki : k = i
      · subst hki
        rw [HA.out] at k1
        have htt : (t == t) = true := by simp
        go_wp2
        go_ret
        exact ⟨rfl, FIN.out⟩
      · have hne := HLAST.out k (by omega) hk
        obtain ⟨x, hx⟩ : ∃ x, eA E k = x := ⟨_, rfl⟩
        rw [hx] at k1 hne
        have hxt : (x == t) = false := by simp [hne]
        have hkp : 1 ≤ k := by omega
        have hik' : i + 1 ≤ k := by omega
        clear hx hne hki
        obtain ⟨k, rfl⟩ : ∃ k', k = k' + 1 := ⟨k - 1, by omega⟩
        go_wp2
        go_round
        case rel => exact ⟨k, by omega, by omega, by first | rfl | (congr 1; omega) | go_num⟩
        case measure => simp [intOf]; first | done | omega
  · exact absurd hm hm'

set_option maxRecDepth 10000 in
set_option maxHeartbeats 8000000 in
theorem xwait_on (t : Int) (ht : 1 ≤ t) (hm : t ∉ liveE E) (h : MNew 29 w0 w G b (ecs E)) (hn : E.length ≤ 999) :
    Calls Try.prog 21 #[.pointer (some ⟨b, 0, none⟩), .int .i64 t] w fun en w' => en = .returned (.int .i64 14) ∧ StepM 29 w0 G w w' b (ecs (E ++ [(t, true)])) := by
  rcases drop_cases E t with ⟨hm', -⟩ | ⟨-, hno⟩
  · exact absurd hm' hm
  have HH := hid h
  have NO := hid hno
  obtain ⟨hGb, vs, vA, vH, hM, hvs, hvA, hvH, oA, oH, hAb, hHb, hAG2, hHG2⟩ := h.lists
  have hAG : ∀ k, vA.ownBlock = some k → G k := fun k hk => (hAG2 k hk).1
  have hHG : ∀ k, vH.ownBlock = some k → G k := fun k hk => (hHG2 k hk).1
  have hA0 : ∀ k, vA.ownBlock = some k → k < w.heap.size := fun k hk => own_lt oA hk
  have hb := hM.lt
  obtain ⟨aA, nA, hfA⟩ := oA.form
  obtain ⟨aH, nH, hfH⟩ := oH.form
  rw [List.length_map] at hfA hfH
  subst hfA hfH
  have KK0 : Keep G w w.drew := (Keep.refl _ _).drew
  have RX0 : w.drew.heap[b]? = some (.cells vs.toArray 29 (0, 0)) := hM.row
  have M0 : MobFit w.drew b (ecs E) vs := hM.mob.keep (F := fun _ => False) ((Keep.refl _ _).drew) (fun _ _ _ _ h => h)
  have S0 : w.cell? ⟨b, 0, none⟩ = some (.slice aA E.length nA) ∧ w.cell? ⟨b, 1, none⟩ = some (.slice aH E.length nH) := ⟨hM.cell hvA, hM.cell hvH⟩
  clear hm hno oA oH hM hAG2 hHG2
  go_enter Try.func21, Try.ntmps21
  go_wp2_with fail
  refine (xdrop_no t NO.out h (by omega)).mono ?_
  rintro _ _ ⟨rfl, rfl⟩
  go_wp2_with fail
  refine wp_region_pure (by kernel_rfl) ?_
  refine' anyY_pure (v := _) 1 rfl (by kernel_rfl) (by rfl) (fun W => ?_) ?_; rotate_left
  · (go_simp; first | done | rfl)
  try simp only [Act.put, List.setIfInBounds_toArray, List.set_cons_zero, List.set_cons_succ]
  refine anyY_go [0,0,0,0,0,0,0,2,2,0,0,0,0,2,2,0,0,3,0,0,3] (fun W : World => W.cell? ⟨b, 0, none⟩ = some (.slice aA E.length nA) ∧ W.cell? ⟨b, 1, none⟩ = some (.slice aH E.length nH)) S0 ?_
  refine' anyX_calm (v := _) 0 rfl (by kernel_rfl) (by rfl) (fun W hW => ?_) ?_; rotate_left
  · ((try dsimp only at hW); go_simp; first | done | rfl)
  try simp only [Act.put, List.setIfInBounds_toArray, List.set_cons_zero, List.set_cons_succ]
  refine' anyX_calm (v := _) 2 rfl (by kernel_rfl) (by rfl) (fun W hW => ?_) ?_; rotate_left
  · ((try dsimp only at hW); go_simp; first | done | rfl)
  try simp only [Act.put, List.setIfInBounds_toArray, List.set_cons_zero, List.set_cons_succ]
  refine' anyX_calm (v := _) 3 rfl (by kernel_rfl) (by rfl) (fun W hW => ?_) ?_; rotate_left
  · ((try dsimp only at hW); go_simp; first | done | rfl)
  try simp only [Act.put, List.setIfInBounds_toArray, List.set_cons_zero, List.set_cons_succ]
  refine' anyX_calm (v := _) 4 rfl (by kernel_rfl) (by rfl) (fun W hW => ?_) ?_; rotate_left
  · ((try dsimp only at hW); go_simp; first | done | rfl)
  try simp only [Act.put, List.setIfInBounds_toArray, List.set_cons_zero, List.set_cons_succ]
  refine' anyX_calm (v := _) 5 rfl (by kernel_rfl) (by rfl) (fun W hW => ?_) ?_; rotate_left
  · ((try dsimp only at hW); go_simp; first | done | rfl)
  try simp only [Act.put, List.setIfInBounds_toArray, List.set_cons_zero, List.set_cons_succ]
  refine' anyX_calm (v := _) 6 rfl (by kernel_rfl) (by rfl) (fun W hW => ?_) ?_; rotate_left
  · ((try dsimp only at hW); go_simp; first | done | rfl)
  try simp only [Act.put, List.setIfInBounds_toArray, List.set_cons_zero, List.set_cons_succ]
  refine' anyX_calm (v := _) 9 rfl (by kernel_rfl) (by rfl) (fun W hW => ?_) ?_; rotate_left
  · ((try dsimp only at hW); go_simp; first | done | rfl)
  try simp only [Act.put, List.setIfInBounds_toArray, List.set_cons_zero, List.set_cons_succ]
  refine' anyX_calm (v := _) 10 rfl (by kernel_rfl) (by rfl) (fun W hW => ?_) ?_; rotate_left
  · ((try dsimp only at hW); go_simp; first | done | rfl)
  try simp only [Act.put, List.setIfInBounds_toArray, List.set_cons_zero, List.set_cons_succ]
  refine' anyX_calm (v := _) 11 rfl (by kernel_rfl) (by rfl) (fun W hW => ?_) ?_; rotate_left
  · ((try dsimp only at hW); go_simp; first | done | rfl)
  try simp only [Act.put, List.setIfInBounds_toArray, List.set_cons_zero, List.set_cons_succ]
  refine' anyX_calm (v := _) 12 rfl (by kernel_rfl) (by rfl) (fun W hW => ?_) ?_; rotate_left
  · ((try dsimp only at hW); go_simp; first | done | rfl)
  try simp only [Act.put, List.setIfInBounds_toArray, List.set_cons_zero, List.set_cons_succ]
  refine anyX_two 7 13 rfl rfl (by kernel_rfl) rfl rfl (by rfl) (by rfl) (fun K hK => ?_) (fun K hK => ?_)
  · go_simp
    have KA1 : Keep (fun _ => False) w.drew (w.alloc (.cells #[.int .i64 t] 3)).drew := (Keep.refl _ w.drew).alloc _
    have KK1 := KK0.trans (KA1.mono (G := G) fun _ _ h => h.elim)
    have RX1 := (KA1.block b (Nat.lt_of_lt_of_le hb KK0.size) (fun h => h)).trans RX0
    have M1 := M0.keep KA1 (fun _ _ _ _ h => h)
    have s1_1 : Src (w.alloc (.cells #[.int .i64 t] 3)).drew (.slice (some ⟨w.heap.size, 0, none⟩) 1 1) 1 1 (flat1 [t]) := one_srcI w.drew t
    have ps1 : Hid (w.heap.size ≤ w.drew.heap.size) := hid KK0.size
    refine hK _ _ ⟨by rw [cell_of_row _ b 0 _ _ _ RX1, List.getElem?_toArray]; exact hvA, by rw [cell_of_row _ b 1 _ _ _ RX1, List.getElem?_toArray]; exact hvH⟩ ?_
    clear hK K
    try simp only [Act.put, List.setIfInBounds_toArray, List.set_cons_zero, List.set_cons_succ]
    obtain ⟨X1, hX1⟩ : ∃ x, (w.alloc (.cells #[.int .i64 t] 3)).drew = x := ⟨_, rfl⟩
    rw [hX1] at KA1 KK1 RX1 M1 s1_1 ⊢
    clear hX1
    refine anyX_two 8 13 rfl rfl (by kernel_rfl) rfl rfl (by rfl) (by rfl) (fun K hK => ?_) (fun K hK => ?_)
    · have OWN2 : OwnI X1 (.slice aA E.length nA) (E.map (·.1)) := M1.own (i := 0) rfl (by first | exact hvA | (rw [List.getElem?_set_ne (by decide)]; exact hvA))
      refine wp_append_ints _ (.tmp 41) (.tmp 43) rfl _ _ rfl OWN2 _ 1 [t] rfl s1_1 (by rw [List.length_map]; omega) ?_
      intro u2 X2 o2 f2 k2
      have KK2 := KK1.trans (k2.mono (G := G) fun k _ hk => hAG k hk)
      have RX2 := (k2.block b (Nat.lt_of_lt_of_le hb KK1.size) hAb).trans RX1
      have M2 := M1.turn (c' := Cel.ci (E.map (·.1) ++ [t])) (Nat.lt_of_lt_of_le hb KK1.size) (i := 0) (by first | exact hvA | (rw [List.getElem?_set_ne (by decide)]; exact hvA)) k2 ⟨o2, fun e => (f2 b e).elim hAb (fun h => by have := KK1.size; omega)⟩ f2
      have Fs1 : ∀ k, u2.ownBlock = some k → G k ∨ w.heap.size ≤ k := fun k hk => (f2 k hk).elim (fun h => .inl (hAG k h)) (fun h => .inr (Nat.le_trans KK1.size h))
      obtain ⟨a2, n2, hu2⟩ := o2.form
      obtain ⟨m2, hm2⟩ : ∃ m, (E.map (·.1) ++ [t]).length = m := ⟨_, rfl⟩
      rw [hm2] at hu2
      clear hm2
      subst hu2
      refine hK _ _ ⟨by rw [cell_of_row _ b 0 _ _ _ RX2, List.getElem?_toArray]; exact hvA, by rw [cell_of_row _ b 1 _ _ _ RX2, List.getElem?_toArray]; exact hvH⟩ ?_
      clear hK K o2 f2 OWN2 s1_1
      try simp only [Act.put, List.setIfInBounds_toArray, List.set_cons_zero, List.set_cons_succ]
      refine anyX_does 13 rfl (by kernel_rfl) (by rfl) (fun K hK => ?_)
      go_simp
      have KA3 : Keep (fun _ => False) X2 (X2.alloc (.cells #[.bool true] 4)) := (Keep.refl _ X2).alloc _
      have KK3 := KK2.trans (KA3.mono (G := G) fun _ _ h => h.elim)
      have RX3 := (KA3.block b (Nat.lt_of_lt_of_le hb KK2.size) (fun h => h)).trans RX2
      have M3 := M2.keep KA3 (fun _ _ _ _ h => h)
      have s2_3 : Src (X2.alloc (.cells #[.bool true] 4)) (.slice (some ⟨X2.heap.size, 0, none⟩) 1 1) 1 1 (flatB [true]) := one_srcB X2 true
      have ps2 : Hid (w.heap.size ≤ X2.heap.size) := hid KK2.size
      refine hK _ _ ⟨by rw [cell_of_row _ b 0 _ _ _ RX3, List.getElem?_toArray]; exact hvA, by rw [cell_of_row _ b 1 _ _ _ RX3, List.getElem?_toArray]; exact hvH⟩ ?_
      clear hK K
      try simp only [Act.put, List.setIfInBounds_toArray, List.set_cons_zero, List.set_cons_succ]
      obtain ⟨X3, hX3⟩ : ∃ x, (X2.alloc (.cells #[.bool true] 4)) = x := ⟨_, rfl⟩
      rw [hX3] at KA3 KK3 RX3 M3 s2_3 ⊢
      clear hX3
      refine anyX_does 14 rfl (by kernel_rfl) (by rfl) (fun K hK => ?_)
      have OWN4 : OwnB X3 (.slice aH E.length nH) (E.map (·.2)) := M3.own (i := 1) rfl (by first | exact hvH | (rw [List.getElem?_set_ne (by decide)]; exact hvH))
      refine wp_append_bools _ (.tmp 48) (.tmp 49) rfl _ _ rfl OWN4 _ 1 [true] rfl s2_3 (by rw [List.length_map]; omega) ?_
      intro u4 X4 o4 f4 k4
      have KK4 := KK3.trans (k4.mono (G := G) fun k _ hk => hHG k hk)
      have RX4 := (k4.block b (Nat.lt_of_lt_of_le hb KK3.size) hHb).trans RX3
      have M4 := M3.turn (c' := Cel.cb (E.map (·.2) ++ [true])) (Nat.lt_of_lt_of_le hb KK3.size) (i := 1) (by first | exact hvH | (rw [List.getElem?_set_ne (by decide)]; exact hvH)) k4 ⟨o4, fun e => (f4 b e).elim hHb (fun h => by have := KK3.size; omega)⟩ f4
      have Fs2 : ∀ k, u4.ownBlock = some k → G k ∨ w.heap.size ≤ k := fun k hk => (f4 k hk).elim (fun h => .inl (hHG k h)) (fun h => .inr (Nat.le_trans KK3.size h))
      obtain ⟨a4, n4, hu4⟩ := o4.form
      obtain ⟨m4, hm4⟩ : ∃ m, (E.map (·.2) ++ [true]).length = m := ⟨_, rfl⟩
      rw [hm4] at hu4
      clear hm4
      subst hu4
      refine hK _ _ ⟨by rw [cell_of_row _ b 0 _ _ _ RX4, List.getElem?_toArray]; exact hvA, by rw [cell_of_row _ b 1 _ _ _ RX4, List.getElem?_toArray]; exact hvH⟩ ?_
      clear hK K o4 f4 OWN4 s2_3
      try simp only [Act.put, List.setIfInBounds_toArray, List.set_cons_zero, List.set_cons_succ]
      refine' anyX_calm (v := _) 15 rfl (by kernel_rfl) (by rfl) (fun W hW => ?_) ?_; rotate_left
      · ((try dsimp only at hW); go_simp; first | done | rfl)
      try simp only [Act.put, List.setIfInBounds_toArray, List.set_cons_zero, List.set_cons_succ]
      refine' anyX_calm (v := _) 16 rfl (by kernel_rfl) (by rfl) (fun W hW => ?_) ?_; rotate_left
      · ((try dsimp only at hW); go_simp; first | done | rfl)
      try simp only [Act.put, List.setIfInBounds_toArray, List.set_cons_zero, List.set_cons_succ]
      refine anyX_bar (fun _ => True) [0,0,0,0,0,0,0,0,0,0,0,0,0,0,0,0,0,0,0,0,3] 17 rfl (by kernel_rfl) (by rfl) (fun K hK => ?_)
      have q0 : X4.cell? ⟨b, 0, none⟩ = some (.slice aA E.length nA) := by rw [cell_of_row _ b 0 _ _ _ RX4, List.getElem?_toArray]; exact hvA
      have z0 : X4.frozen? ⟨b, 0, none⟩ = false := by simp [World.frozen?, RX4]
      have R2 := heap_setCell_row (o := 0) RX4 (Value.slice a2 m2 n2)
      have MF : MobFit (X4.setCell ⟨b, 0, none⟩ (Value.slice a2 m2 n2)) b (ecs (E ++ [(t, true)])) ((vs.set 0 (Value.slice a2 m2 n2)).set 1 (Value.slice a4 m4 n4)) := by
        have := M4.setCell 0 (Value.slice a2 m2 n2)
        have e : ecs (E ++ [(t, true)]) = ((ecs E).set 0 (.ci (E.map (·.1) ++ [t]))).set 1 (.cb (E.map (·.2) ++ [true])) := by simp [ecs]
        rw [e]
        exact this
      have MP := MobAt.put (T := 29) (i := 1) (v' := (Value.slice a4 m4 n4)) (vs := vs.set 0 (Value.slice a2 m2 n2)) (by rw [R2, List.setIfInBounds_toArray]) MF rfl
      have q1 : (X4.setCell ⟨b, 0, none⟩ (Value.slice a2 m2 n2)).cell? ⟨b, 1, none⟩ = some (.slice aH E.length nH) := by rw [cell_of_row _ b 1 _ _ _ R2, List.setIfInBounds_toArray, List.getElem?_toArray, List.getElem?_set_ne (by decide)]; exact hvH
      have z1 : (X4.setCell ⟨b, 0, none⟩ (Value.slice a2 m2 n2)).frozen? ⟨b, 1, none⟩ = false := by simp [World.frozen?, R2]
      have KF : Keep G w ((X4.setCell ⟨b, 0, none⟩ (Value.slice a2 m2 n2)).setCell ⟨b, 1, none⟩ (Value.slice a4 m4 n4)) := (KK4.setCell (p := ⟨b, 0, none⟩) (.inl hGb) _).setCell (p := ⟨b, 1, none⟩) (.inl hGb) _
      have FIN := hid (HH.out.on (AfterM.stored MP KF hGb (fun v hv k hk => by
        rcases List.mem_or_eq_of_mem_set hv with hv | rfl
        · rcases List.mem_or_eq_of_mem_set hv with hv | rfl
          · exact .inl (hvs v hv k hk)
          · exact Fs1 k hk
        · exact Fs2 k hk)))
      clear MF MP KF M4
      go_simp
      refine hK _ _ trivial ?_
      clear hK K
      try simp only [Act.put, List.setIfInBounds_toArray, List.set_cons_zero, List.set_cons_succ]
      refine' anyX_calm (v := _) 18 rfl (by kernel_rfl) (by rfl) (fun W hW => ?_) ?_; rotate_left
      · ((try dsimp only at hW); go_simp; first | done | rfl)
      try simp only [Act.put, List.setIfInBounds_toArray, List.set_cons_zero, List.set_cons_succ]
      refine' anyX_calm (v := _) 19 rfl (by kernel_rfl) (by rfl) (fun W hW => ?_) ?_; rotate_left
      · ((try dsimp only at hW); go_simp; first | done | rfl)
      try simp only [Act.put, List.setIfInBounds_toArray, List.set_cons_zero, List.set_cons_succ]
      refine anyX_last 20 rfl (by kernel_rfl) (by rfl) (fun K hK => ?_)
      go_simp
      refine hK _ _ ?_
      clear hK K
      try simp only [Act.put, List.setIfInBounds_toArray, List.set_cons_zero, List.set_cons_succ]
      go_wp2
      go_ret
      exact ⟨rfl, FIN.out⟩
    · go_simp
      have KA2 : Keep (fun _ => False) X1 (X1.alloc (.cells #[.bool true] 4)) := (Keep.refl _ X1).alloc _
      have KK2 := KK1.trans (KA2.mono (G := G) fun _ _ h => h.elim)
      have RX2 := (KA2.block b (Nat.lt_of_lt_of_le hb KK1.size) (fun h => h)).trans RX1
      have M2 := M1.keep KA2 (fun _ _ _ _ h => h)
      have s1_2 := s1_1.keep KA2 (fun _ _ h => h)
      have s2_2 : Src (X1.alloc (.cells #[.bool true] 4)) (.slice (some ⟨X1.heap.size, 0, none⟩) 1 1) 1 1 (flatB [true]) := one_srcB X1 true
      have ps2 : Hid (w.heap.size ≤ X1.heap.size) := hid KK1.size
      refine hK _ _ ⟨by rw [cell_of_row _ b 0 _ _ _ RX2, List.getElem?_toArray]; exact hvA, by rw [cell_of_row _ b 1 _ _ _ RX2, List.getElem?_toArray]; exact hvH⟩ ?_
      clear hK K
      try simp only [Act.put, List.setIfInBounds_toArray, List.set_cons_zero, List.set_cons_succ]
      obtain ⟨X2, hX2⟩ : ∃ x, (X1.alloc (.cells #[.bool true] 4)) = x := ⟨_, rfl⟩
      rw [hX2] at KA2 KK2 RX2 M2 s1_2 s2_2 ⊢
      clear hX2
      refine anyX_does 8 rfl (by kernel_rfl) (by rfl) (fun K hK => ?_)
      have OWN3 : OwnI X2 (.slice aA E.length nA) (E.map (·.1)) := M2.own (i := 0) rfl (by first | exact hvA | (rw [List.getElem?_set_ne (by decide)]; exact hvA))
      refine wp_append_ints _ (.tmp 41) (.tmp 43) rfl _ _ rfl OWN3 _ 1 [t] rfl s1_2 (by rw [List.length_map]; omega) ?_
      intro u3 X3 o3 f3 k3
      have KK3 := KK2.trans (k3.mono (G := G) fun k _ hk => hAG k hk)
      have RX3 := (k3.block b (Nat.lt_of_lt_of_le hb KK2.size) hAb).trans RX2
      have M3 := M2.turn (c' := Cel.ci (E.map (·.1) ++ [t])) (Nat.lt_of_lt_of_le hb KK2.size) (i := 0) (by first | exact hvA | (rw [List.getElem?_set_ne (by decide)]; exact hvA)) k3 ⟨o3, fun e => (f3 b e).elim hAb (fun h => by have := KK2.size; omega)⟩ f3
      have s2_3 := s2_2.keep k3 (fun k hk h => by have := Option.some.inj hk; dsimp only at this; have := hA0 k h; have := ps2.out; omega)
      have Fs1 : ∀ k, u3.ownBlock = some k → G k ∨ w.heap.size ≤ k := fun k hk => (f3 k hk).elim (fun h => .inl (hAG k h)) (fun h => .inr (Nat.le_trans KK2.size h))
      obtain ⟨a3, n3, hu3⟩ := o3.form
      obtain ⟨m3, hm3⟩ : ∃ m, (E.map (·.1) ++ [t]).length = m := ⟨_, rfl⟩
      rw [hm3] at hu3
      clear hm3
      subst hu3
      refine hK _ _ ⟨by rw [cell_of_row _ b 0 _ _ _ RX3, List.getElem?_toArray]; exact hvA, by rw [cell_of_row _ b 1 _ _ _ RX3, List.getElem?_toArray]; exact hvH⟩ ?_
      clear hK K o3 f3 OWN3 s1_2
      try simp only [Act.put, List.setIfInBounds_toArray, List.set_cons_zero, List.set_cons_succ]
      refine anyX_does 14 rfl (by kernel_rfl) (by rfl) (fun K hK => ?_)
      have OWN4 : OwnB X3 (.slice aH E.length nH) (E.map (·.2)) := M3.own (i := 1) rfl (by first | exact hvH | (rw [List.getElem?_set_ne (by decide)]; exact hvH))
      refine wp_append_bools _ (.tmp 48) (.tmp 49) rfl _ _ rfl OWN4 _ 1 [true] rfl s2_3 (by rw [List.length_map]; omega) ?_
      intro u4 X4 o4 f4 k4
      have KK4 := KK3.trans (k4.mono (G := G) fun k _ hk => hHG k hk)
      have RX4 := (k4.block b (Nat.lt_of_lt_of_le hb KK3.size) hHb).trans RX3
      have M4 := M3.turn (c' := Cel.cb (E.map (·.2) ++ [true])) (Nat.lt_of_lt_of_le hb KK3.size) (i := 1) (by first | exact hvH | (rw [List.getElem?_set_ne (by decide)]; exact hvH)) k4 ⟨o4, fun e => (f4 b e).elim hHb (fun h => by have := KK3.size; omega)⟩ f4
      have Fs2 : ∀ k, u4.ownBlock = some k → G k ∨ w.heap.size ≤ k := fun k hk => (f4 k hk).elim (fun h => .inl (hHG k h)) (fun h => .inr (Nat.le_trans KK3.size h))
      obtain ⟨a4, n4, hu4⟩ := o4.form
      obtain ⟨m4, hm4⟩ : ∃ m, (E.map (·.2) ++ [true]).length = m := ⟨_, rfl⟩
      rw [hm4] at hu4
      clear hm4
      subst hu4
      refine hK _ _ ⟨by rw [cell_of_row _ b 0 _ _ _ RX4, List.getElem?_toArray]; exact hvA, by rw [cell_of_row _ b 1 _ _ _ RX4, List.getElem?_toArray]; exact hvH⟩ ?_
      clear hK K o4 f4 OWN4 s2_3
      try simp only [Act.put, List.setIfInBounds_toArray, List.set_cons_zero, List.set_cons_succ]
      refine' anyX_calm (v := _) 15 rfl (by kernel_rfl) (by rfl) (fun W hW => ?_) ?_; rotate_left
      · ((try dsimp only at hW); go_simp; first | done | rfl)
      try simp only [Act.put, List.setIfInBounds_toArray, List.set_cons_zero, List.set_cons_succ]
      refine' anyX_calm (v := _) 16 rfl (by kernel_rfl) (by rfl) (fun W hW => ?_) ?_; rotate_left
      · ((try dsimp only at hW); go_simp; first | done | rfl)
      try simp only [Act.put, List.setIfInBounds_toArray, List.set_cons_zero, List.set_cons_succ]
      refine anyX_bar (fun _ => True) [0,0,0,0,0,0,0,0,0,0,0,0,0,0,0,0,0,0,0,0,3] 17 rfl (by kernel_rfl) (by rfl) (fun K hK => ?_)
      have q0 : X4.cell? ⟨b, 0, none⟩ = some (.slice aA E.length nA) := by rw [cell_of_row _ b 0 _ _ _ RX4, List.getElem?_toArray]; exact hvA
      have z0 : X4.frozen? ⟨b, 0, none⟩ = false := by simp [World.frozen?, RX4]
      have R2 := heap_setCell_row (o := 0) RX4 (Value.slice a3 m3 n3)
      have MF : MobFit (X4.setCell ⟨b, 0, none⟩ (Value.slice a3 m3 n3)) b (ecs (E ++ [(t, true)])) ((vs.set 0 (Value.slice a3 m3 n3)).set 1 (Value.slice a4 m4 n4)) := by
        have := M4.setCell 0 (Value.slice a3 m3 n3)
        have e : ecs (E ++ [(t, true)]) = ((ecs E).set 0 (.ci (E.map (·.1) ++ [t]))).set 1 (.cb (E.map (·.2) ++ [true])) := by simp [ecs]
        rw [e]
        exact this
      have MP := MobAt.put (T := 29) (i := 1) (v' := (Value.slice a4 m4 n4)) (vs := vs.set 0 (Value.slice a3 m3 n3)) (by rw [R2, List.setIfInBounds_toArray]) MF rfl
      have q1 : (X4.setCell ⟨b, 0, none⟩ (Value.slice a3 m3 n3)).cell? ⟨b, 1, none⟩ = some (.slice aH E.length nH) := by rw [cell_of_row _ b 1 _ _ _ R2, List.setIfInBounds_toArray, List.getElem?_toArray, List.getElem?_set_ne (by decide)]; exact hvH
      have z1 : (X4.setCell ⟨b, 0, none⟩ (Value.slice a3 m3 n3)).frozen? ⟨b, 1, none⟩ = false := by simp [World.frozen?, R2]
      have KF : Keep G w ((X4.setCell ⟨b, 0, none⟩ (Value.slice a3 m3 n3)).setCell ⟨b, 1, none⟩ (Value.slice a4 m4 n4)) := (KK4.setCell (p := ⟨b, 0, none⟩) (.inl hGb) _).setCell (p := ⟨b, 1, none⟩) (.inl hGb) _
      have FIN := hid (HH.out.on (AfterM.stored MP KF hGb (fun v hv k hk => by
        rcases List.mem_or_eq_of_mem_set hv with hv | rfl
        · rcases List.mem_or_eq_of_mem_set hv with hv | rfl
          · exact .inl (hvs v hv k hk)
          · exact Fs1 k hk
        · exact Fs2 k hk)))
      clear MF MP KF M4
      go_simp
      refine hK _ _ trivial ?_
      clear hK K
      try simp only [Act.put, List.setIfInBounds_toArray, List.set_cons_zero, List.set_cons_succ]
      refine' anyX_calm (v := _) 18 rfl (by kernel_rfl) (by rfl) (fun W hW => ?_) ?_; rotate_left
      · ((try dsimp only at hW); go_simp; first | done | rfl)
      try simp only [Act.put, List.setIfInBounds_toArray, List.set_cons_zero, List.set_cons_succ]
      refine' anyX_calm (v := _) 19 rfl (by kernel_rfl) (by rfl) (fun W hW => ?_) ?_; rotate_left
      · ((try dsimp only at hW); go_simp; first | done | rfl)
      try simp only [Act.put, List.setIfInBounds_toArray, List.set_cons_zero, List.set_cons_succ]
      refine anyX_last 20 rfl (by kernel_rfl) (by rfl) (fun K hK => ?_)
      go_simp
      refine hK _ _ ?_
      clear hK K
      try simp only [Act.put, List.setIfInBounds_toArray, List.set_cons_zero, List.set_cons_succ]
      go_wp2
      go_ret
      exact ⟨rfl, FIN.out⟩
  · go_simp
    have KA1 : Keep (fun _ => False) w.drew (w.alloc (.cells #[.bool true] 4)).drew := (Keep.refl _ w.drew).alloc _
    have KK1 := KK0.trans (KA1.mono (G := G) fun _ _ h => h.elim)
    have RX1 := (KA1.block b (Nat.lt_of_lt_of_le hb KK0.size) (fun h => h)).trans RX0
    have M1 := M0.keep KA1 (fun _ _ _ _ h => h)
    have s2_1 : Src (w.alloc (.cells #[.bool true] 4)).drew (.slice (some ⟨w.heap.size, 0, none⟩) 1 1) 1 1 (flatB [true]) := one_srcB w.drew true
    have ps2 : Hid (w.heap.size ≤ w.drew.heap.size) := hid KK0.size
    refine hK _ _ ⟨by rw [cell_of_row _ b 0 _ _ _ RX1, List.getElem?_toArray]; exact hvA, by rw [cell_of_row _ b 1 _ _ _ RX1, List.getElem?_toArray]; exact hvH⟩ ?_
    clear hK K
    try simp only [Act.put, List.setIfInBounds_toArray, List.set_cons_zero, List.set_cons_succ]
    obtain ⟨X1, hX1⟩ : ∃ x, (w.alloc (.cells #[.bool true] 4)).drew = x := ⟨_, rfl⟩
    rw [hX1] at KA1 KK1 RX1 M1 s2_1 ⊢
    clear hX1
    refine anyX_does 7 rfl (by kernel_rfl) (by rfl) (fun K hK => ?_)
    go_simp
    have KA2 : Keep (fun _ => False) X1 (X1.alloc (.cells #[.int .i64 t] 3)) := (Keep.refl _ X1).alloc _
    have KK2 := KK1.trans (KA2.mono (G := G) fun _ _ h => h.elim)
    have RX2 := (KA2.block b (Nat.lt_of_lt_of_le hb KK1.size) (fun h => h)).trans RX1
    have M2 := M1.keep KA2 (fun _ _ _ _ h => h)
    have s2_2 := s2_1.keep KA2 (fun _ _ h => h)
    have s1_2 : Src (X1.alloc (.cells #[.int .i64 t] 3)) (.slice (some ⟨X1.heap.size, 0, none⟩) 1 1) 1 1 (flat1 [t]) := one_srcI X1 t
    have ps1 : Hid (w.heap.size ≤ X1.heap.size) := hid KK1.size
    refine hK _ _ ⟨by rw [cell_of_row _ b 0 _ _ _ RX2, List.getElem?_toArray]; exact hvA, by rw [cell_of_row _ b 1 _ _ _ RX2, List.getElem?_toArray]; exact hvH⟩ ?_
    clear hK K
    try simp only [Act.put, List.setIfInBounds_toArray, List.set_cons_zero, List.set_cons_succ]
    obtain ⟨X2, hX2⟩ : ∃ x, (X1.alloc (.cells #[.int .i64 t] 3)) = x := ⟨_, rfl⟩
    rw [hX2] at KA2 KK2 RX2 M2 s1_2 s2_2 ⊢
    clear hX2
    refine anyX_does 8 rfl (by kernel_rfl) (by rfl) (fun K hK => ?_)
    have OWN3 : OwnI X2 (.slice aA E.length nA) (E.map (·.1)) := M2.own (i := 0) rfl (by first | exact hvA | (rw [List.getElem?_set_ne (by decide)]; exact hvA))
    refine wp_append_ints _ (.tmp 41) (.tmp 43) rfl _ _ rfl OWN3 _ 1 [t] rfl s1_2 (by rw [List.length_map]; omega) ?_
    intro u3 X3 o3 f3 k3
    have KK3 := KK2.trans (k3.mono (G := G) fun k _ hk => hAG k hk)
    have RX3 := (k3.block b (Nat.lt_of_lt_of_le hb KK2.size) hAb).trans RX2
    have M3 := M2.turn (c' := Cel.ci (E.map (·.1) ++ [t])) (Nat.lt_of_lt_of_le hb KK2.size) (i := 0) (by first | exact hvA | (rw [List.getElem?_set_ne (by decide)]; exact hvA)) k3 ⟨o3, fun e => (f3 b e).elim hAb (fun h => by have := KK2.size; omega)⟩ f3
    have s2_3 := s2_2.keep k3 (fun k hk h => by have := Option.some.inj hk; dsimp only at this; have := hA0 k h; have := ps2.out; omega)
    have Fs1 : ∀ k, u3.ownBlock = some k → G k ∨ w.heap.size ≤ k := fun k hk => (f3 k hk).elim (fun h => .inl (hAG k h)) (fun h => .inr (Nat.le_trans KK2.size h))
    obtain ⟨a3, n3, hu3⟩ := o3.form
    obtain ⟨m3, hm3⟩ : ∃ m, (E.map (·.1) ++ [t]).length = m := ⟨_, rfl⟩
    rw [hm3] at hu3
    clear hm3
    subst hu3
    refine hK _ _ ⟨by rw [cell_of_row _ b 0 _ _ _ RX3, List.getElem?_toArray]; exact hvA, by rw [cell_of_row _ b 1 _ _ _ RX3, List.getElem?_toArray]; exact hvH⟩ ?_
    clear hK K o3 f3 OWN3 s1_2
    try simp only [Act.put, List.setIfInBounds_toArray, List.set_cons_zero, List.set_cons_succ]
    refine anyX_does 14 rfl (by kernel_rfl) (by rfl) (fun K hK => ?_)
    have OWN4 : OwnB X3 (.slice aH E.length nH) (E.map (·.2)) := M3.own (i := 1) rfl (by first | exact hvH | (rw [List.getElem?_set_ne (by decide)]; exact hvH))
    refine wp_append_bools _ (.tmp 48) (.tmp 49) rfl _ _ rfl OWN4 _ 1 [true] rfl s2_3 (by rw [List.length_map]; omega) ?_
    intro u4 X4 o4 f4 k4
    have KK4 := KK3.trans (k4.mono (G := G) fun k _ hk => hHG k hk)
    have RX4 := (k4.block b (Nat.lt_of_lt_of_le hb KK3.size) hHb).trans RX3
    have M4 := M3.turn (c' := Cel.cb (E.map (·.2) ++ [true])) (Nat.lt_of_lt_of_le hb KK3.size) (i := 1) (by first | exact hvH | (rw [List.getElem?_set_ne (by decide)]; exact hvH)) k4 ⟨o4, fun e => (f4 b e).elim hHb (fun h => by have := KK3.size; omega)⟩ f4
    have Fs2 : ∀ k, u4.ownBlock = some k → G k ∨ w.heap.size ≤ k := fun k hk => (f4 k hk).elim (fun h => .inl (hHG k h)) (fun h => .inr (Nat.le_trans KK3.size h))
    obtain ⟨a4, n4, hu4⟩ := o4.form
    obtain ⟨m4, hm4⟩ : ∃ m, (E.map (·.2) ++ [true]).length = m := ⟨_, rfl⟩
    rw [hm4] at hu4
    clear hm4
    subst hu4
    refine hK _ _ ⟨by rw [cell_of_row _ b 0 _ _ _ RX4, List.getElem?_toArray]; exact hvA, by rw [cell_of_row _ b 1 _ _ _ RX4, List.getElem?_toArray]; exact hvH⟩ ?_
    clear hK K o4 f4 OWN4 s2_3
    try simp only [Act.put, List.setIfInBounds_toArray, List.set_cons_zero, List.set_cons_succ]
    refine' anyX_calm (v := _) 15 rfl (by kernel_rfl) (by rfl) (fun W hW => ?_) ?_; rotate_left
    · ((try dsimp only at hW); go_simp; first | done | rfl)
    try simp only [Act.put, List.setIfInBounds_toArray, List.set_cons_zero, List.set_cons_succ]
    refine' anyX_calm (v := _) 16 rfl (by kernel_rfl) (by rfl) (fun W hW => ?_) ?_; rotate_left
    · ((try dsimp only at hW); go_simp; first | done | rfl)
    try simp only [Act.put, List.setIfInBounds_toArray, List.set_cons_zero, List.set_cons_succ]
    refine anyX_bar (fun _ => True) [0,0,0,0,0,0,0,0,0,0,0,0,0,0,0,0,0,0,0,0,3] 17 rfl (by kernel_rfl) (by rfl) (fun K hK => ?_)
    have q0 : X4.cell? ⟨b, 0, none⟩ = some (.slice aA E.length nA) := by rw [cell_of_row _ b 0 _ _ _ RX4, List.getElem?_toArray]; exact hvA
    have z0 : X4.frozen? ⟨b, 0, none⟩ = false := by simp [World.frozen?, RX4]
    have R2 := heap_setCell_row (o := 0) RX4 (Value.slice a3 m3 n3)
    have MF : MobFit (X4.setCell ⟨b, 0, none⟩ (Value.slice a3 m3 n3)) b (ecs (E ++ [(t, true)])) ((vs.set 0 (Value.slice a3 m3 n3)).set 1 (Value.slice a4 m4 n4)) := by
      have := M4.setCell 0 (Value.slice a3 m3 n3)
      have e : ecs (E ++ [(t, true)]) = ((ecs E).set 0 (.ci (E.map (·.1) ++ [t]))).set 1 (.cb (E.map (·.2) ++ [true])) := by simp [ecs]
      rw [e]
      exact this
    have MP := MobAt.put (T := 29) (i := 1) (v' := (Value.slice a4 m4 n4)) (vs := vs.set 0 (Value.slice a3 m3 n3)) (by rw [R2, List.setIfInBounds_toArray]) MF rfl
    have q1 : (X4.setCell ⟨b, 0, none⟩ (Value.slice a3 m3 n3)).cell? ⟨b, 1, none⟩ = some (.slice aH E.length nH) := by rw [cell_of_row _ b 1 _ _ _ R2, List.setIfInBounds_toArray, List.getElem?_toArray, List.getElem?_set_ne (by decide)]; exact hvH
    have z1 : (X4.setCell ⟨b, 0, none⟩ (Value.slice a3 m3 n3)).frozen? ⟨b, 1, none⟩ = false := by simp [World.frozen?, R2]
    have KF : Keep G w ((X4.setCell ⟨b, 0, none⟩ (Value.slice a3 m3 n3)).setCell ⟨b, 1, none⟩ (Value.slice a4 m4 n4)) := (KK4.setCell (p := ⟨b, 0, none⟩) (.inl hGb) _).setCell (p := ⟨b, 1, none⟩) (.inl hGb) _
    have FIN := hid (HH.out.on (AfterM.stored MP KF hGb (fun v hv k hk => by
      rcases List.mem_or_eq_of_mem_set hv with hv | rfl
      · rcases List.mem_or_eq_of_mem_set hv with hv | rfl
        · exact .inl (hvs v hv k hk)
        · exact Fs1 k hk
      · exact Fs2 k hk)))
    clear MF MP KF M4
    go_simp
    refine hK _ _ trivial ?_
    clear hK K
    try simp only [Act.put, List.setIfInBounds_toArray, List.set_cons_zero, List.set_cons_succ]
    refine' anyX_calm (v := _) 18 rfl (by kernel_rfl) (by rfl) (fun W hW => ?_) ?_; rotate_left
    · ((try dsimp only at hW); go_simp; first | done | rfl)
    try simp only [Act.put, List.setIfInBounds_toArray, List.set_cons_zero, List.set_cons_succ]
    refine' anyX_calm (v := _) 19 rfl (by kernel_rfl) (by rfl) (fun W hW => ?_) ?_; rotate_left
    · ((try dsimp only at hW); go_simp; first | done | rfl)
    try simp only [Act.put, List.setIfInBounds_toArray, List.set_cons_zero, List.set_cons_succ]
    refine anyX_last 20 rfl (by kernel_rfl) (by rfl) (fun K hK => ?_)
    go_simp
    refine hK _ _ ?_
    clear hK K
    try simp only [Act.put, List.setIfInBounds_toArray, List.set_cons_zero, List.set_cons_succ]
    go_wp2
    go_ret
    exact ⟨rfl, FIN.out⟩
end
end Go.Proofs.Ytcbnbnlioajadaa
