/- The walks of the reference's Sema: at, out. -/
import Derived.Test.YtegpoocmhamlpaaSmD
namespace Go.Proofs.Ytegpoocmhamlpaa
open Go Go.RowKit

def SS.many (S : SS) : List Int := S.l.map (·.2)
def rsc (size free : Int) (who many : List Int) : List Cel := [.sc (.int .i64 size), .sc (.int .i64 (size - free)), .ci who, .ci many]
def rscs (S : SS) : List Cel := rsc S.size S.free S.who S.many
theorem SS.who_len (S : SS) : S.who.length = S.l.length := by simp [SS.who]
theorem SS.many_len (S : SS) : S.many.length = S.l.length := by simp [SS.many]

theorem ownI_row {w : World} {v : Value} {l : List Int} (h : OwnI w v l) (hn : 0 < l.length) : ∃ g c, v = .slice (some ⟨g, 0, none⟩) l.length c ∧ g < w.heap.size ∧ l.length ≤ c ∧ c ≤ maxLen ∧ ∀ i, i < l.length → w.cell? ⟨g, i, none⟩ = some (.int .i64 (nth l i)) := by
  obtain ⟨h1, ⟨_, h2⟩ | ⟨g, cap, cur, rfl, _, hg, hn', hc, hs, ht⟩⟩ := h
  · omega
  · refine ⟨g, cap, rfl, lt_of_heap hg, hn', hc, fun i hi => ?_⟩
    have hv := flat1_get l i hi
    rw [cell_of_row w g i cur 3 (0, 0) hg]
    rw [← ht, List.getElem?_take] at hv
    split at hv
    · simpa using hv
    · cases hv

theorem own_part {w : World} {g c : Nat} {n : Nat} {l : List Int} (h : OwnI w (.slice (some ⟨g, 0, none⟩) n c) l) (off m d : Nat) (s : List Int) (hs : s = (l.drop off).take m) (hm : s.length = m) : Src w (.slice (some ⟨g, off, none⟩) m d) m 1 (flat1 s) := by
  refine .inr ⟨_, _, rfl, by rw [flat1_length, hm, Nat.mul_one], fun j u hu => ?_, flat1_one s⟩
  have hj : j < s.length := by
    have := (List.getElem?_eq_some_iff.1 hu).1
    rwa [flat1_length] at this
  have hadd : (⟨g, off, none⟩ : Addr).add j = ⟨g, off + j, none⟩ := by unfold Addr.add; split <;> simp_all
  rw [hadd]
  subst hs
  have hlen : off + j < l.length := by simp at hj; omega
  rcases h.reads with ⟨_, _, _, h0⟩ | ⟨g', o', c', h1, _, _, hc⟩
  · rw [h0] at hlen; simp at hlen
  · simp only [Value.slice.injEq, Option.some.injEq, Addr.mk.injEq] at h1
    obtain ⟨⟨rfl, rfl, _⟩, _, _⟩ := h1
    have hcc := hc (off + j) hlen
    rw [Nat.zero_add] at hcc
    rw [hcc]
    rw [flat1_get _ j hj] at hu
    rw [← Option.some.inj hu]
    simp [nth, List.getD, List.getElem?_take, List.getElem?_drop]
    rw [if_pos (by simp at hj; omega)]

/-- What lies behind the i-th. -/
theorem src_behindM {w : World} {g cap n i d : Nat} {l : List Int} (h : OwnI w (.slice (some ⟨g, 0, none⟩) (n + 1) cap) l) (hl : l.length = n + 1) (hi : i < n + 1) (sv : Value) (hsv : sv = .slice (some (if cap = i + 1 then ⟨g, 0, none⟩ else ⟨g, i + 1, none⟩)) (n - i) d) : Src w sv (n - i) 1 (flat1 (l.drop (i + 1))) := by
  subst hsv
  have hc := own_cap h
  split
  · have : n - i = 0 := by omega
    rw [this]
    refine own_part h 0 0 d _ ?_ ?_
    · rw [List.take_zero]; exact List.drop_eq_nil_of_le (by omega)
    · rw [List.length_drop]; omega
  · refine own_part h (i + 1) (n - i) d _ ?_ ?_
    · rw [List.take_of_length_le]; rw [List.length_drop]; omega
    · rw [List.length_drop]; omega

section
variable {w0 w w' : World} {G : Nat → Prop} {b : Nat} {z f : Int} {who many : List Int}

theorem MNew.rs (h : MNew 46 w0 w G b (rsc z f who many)) : G b ∧ ∃ vs vW vM, MobAt 46 w b (rsc z f who many) vs ∧ (∀ v ∈ vs, ∀ k, v.ownBlock = some k → G k) ∧ vs[2]? = some vW ∧ vs[3]? = some vM ∧ OwnI w vW who ∧ OwnI w vM many ∧
    w.cell? ⟨b, 0, none⟩ = some (.int .i64 z) ∧ w.cell? ⟨b, 1, none⟩ = some (.int .i64 (z - f)) ∧ w.cell? ⟨b, 2, none⟩ = some vW ∧ w.cell? ⟨b, 3, none⟩ = some vM := by
  obtain ⟨⟨hGb, _, vs, hM, hvs⟩, _⟩ := h
  obtain ⟨vW, h2, c2, o2, _⟩ := hM.list 2 (e := 3) (s := 1) (n := who.length) (xs := flat1 who) rfl
  obtain ⟨vM, h3, c3, o3, _⟩ := hM.list 3 (e := 3) (s := 1) (n := many.length) (xs := flat1 many) rfl
  exact ⟨hGb, vs, vW, vM, hM, hvs, h2, h3, o2, o3, hM.get 0 rfl, hM.get 1 rfl, c2, c3⟩

set_option maxHeartbeats 1000000 in
theorem sat_any (t : Int) (h : MNew 46 w0 w G b (rsc z f who many)) (hn : who.length ≤ 1000) :
    Calls Try.prog 57 #[.pointer (some ⟨b, 0, none⟩), .int .i64 t] w fun e w' => e = .returned (.int .i64 (idx who t)) ∧ w = w' := by
  obtain ⟨-, vs, v, -, -, -, -, -, o0, -, -, -, c0, -⟩ := h.rs
  obtain ⟨a, c, hv⟩ := o0.form
  have HV := hid hv
  have O := hid o0
  rw [hv] at c0
  clear h o0 hv
  go_enter Try.func57, Try.ntmps57
  go_wp2
  go_loop [5] (fun i => ∃ k : Nat, k ≤ who.length ∧ i = .int .i64 k ∧ ∀ j, j < k → nth who j ≠ t) (fun i => who.length - (intOf i).toNat)
  case atStart => exact ⟨0, by omega, rfl, fun j h => absurd h (Nat.not_lt_zero j)⟩
  case round =>
    obtain ⟨k, hk, rfl, hno⟩ := hrel
    have N := hid hno
    clear hno
    by_cases hlt : k < who.length
    · obtain ⟨g, c', hv', hg, _, hmx, hc⟩ := ownI_row O.out (by omega)
      have hav : a = some ⟨g, 0, none⟩ ∧ c = c' := by rw [HV.out] at hv'; cases hv'; exact ⟨rfl, rfl⟩
      obtain ⟨rfl, rfl⟩ := hav
      have k1 := hc k hlt
      have hlt' : (k : Int) < (who.length : Int) := by omega
      obtain ⟨x, hx⟩ : ∃ x, nth who k = x := ⟨_, rfl⟩
      have X := hid hx
      rw [hx] at k1
      unfold maxLen at hmx
      clear hc hv' hx
      by_cases hxt : x = t
      · have hb : (x == t) = true := by simp [hxt]
        have I := hid (idx_some (l := who) (t := t) (k := k) hlt (by rw [X.out]; exact hxt) N.out)
        clear hxt
        go_wp2
        go_ret
        exact ⟨by rw [I.out]; rfl, rfl⟩
      · have hb : (x == t) = false := by simp [hxt]
        have N2 := hid (fun j (hj : j < k + 1) => by
          by_cases e : j = k
          · subst e; rw [X.out]; exact hxt
          · exact N.out j (by omega) : ∀ j, j < k + 1 → nth who j ≠ t)
        clear hxt
        go_wp2
        go_round
        case rel => exact ⟨k + 1, by omega, by go_num, N2.out⟩
        case measure => simp [intOf]; omega
    obtain rfl : k = who.length := by omega
    have hlt' : ¬ ((who.length : Int) < (who.length : Int)) := by omega
    have I := hid (idx_none (l := who) (t := t) (fun i hi => N.out i hi))
    go_wp2
    go_ret
    exact ⟨by rw [I.out]; rfl, rfl⟩

set_option maxRecDepth 10000 in
set_option maxHeartbeats 4000000 in
theorem sout_any (i : Nat) (hi : i < who.length) (h : MNew 46 w0 w G b (rsc z f who many)) (hn : who.length ≤ 1000) (hm : many.length = who.length) :
    Calls Try.prog 58 #[.pointer (some ⟨b, 0, none⟩), .int .i64 i] w fun en w' => en = .returned (.tuple #[]) ∧ StepM 46 w0 G w w' b (rsc z f (who.eraseIdx i) (many.eraseIdx i)) := by
  obtain ⟨n, hln⟩ : ∃ n, who.length = n + 1 := ⟨who.length - 1, by omega⟩
  have LW := hid hln
  have LM : Hid (many.length = n + 1) := hid (hm.trans hln)
  have N0 := hid h
  rw [hln] at hi hn
  have b1 : (i : Int) + 1 ≤ (n : Int) + 1 := by omega
  have b2 : i + 1 ≤ n + 1 := by omega
  have b5 : (0 : Int) ≤ (i : Int) := by omega
  have b7 : (i : Int) + 1 ≤ 1000 := by omega
  have hw : IntKind.i64.wrap ((i : Int) + 1) = (i : Int) + 1 := IntWalk.i64_in _ ⟨by omega, by omega⟩
  have hw1 : ((i : Int) + 1).toNat = i + 1 := by omega
  have b8 : (0 : Int) ≤ (i : Int) + 1 := by omega
  clear h hm hln
  go_enter Try.func58, Try.ntmps58
  have o0 := N0.out.rs
  obtain ⟨hGb, vs, vW, vM, hM, hvs, v2, v3, oW, oM, -, -, c2, c3⟩ := o0
  have hb := hM.lt
  obtain ⟨g, cap, hv, hg, hlc, hcm, -⟩ := ownI_row oW (by rw [LW.out]; omega)
  rw [LW.out] at hv hlc
  have EV := hid hv
  have M := hid hM
  have GV := hid hvs
  have V0 := hid v2
  have OA := oW
  rw [hv] at c2 OA
  have OA := hid OA
  have c0 := c2
  have hcm' : cap ≤ 9223372036854775807 := by unfold maxLen at hcm; omega
  have b3 : (n : Int) + 1 ≤ (cap : Int) := by omega
  have b4 : (i : Int) ≤ (cap : Int) := by omega
  have b6 : i ≤ cap := by omega
  clear hM hvs v2 v3 oW oM hv hcm c2 c3
  go_wp2_with fail
  refine wp_region_steps [0,2,0,0,0,0,0,0,2,0,0,0,0,0,0,0,2,0,0,3] (fun W : World => W.cell? ⟨b, 2, none⟩ = some (.slice (some ⟨g, 0, none⟩) (n + 1) cap)) (by kernel_rfl) c0 ?_
  refine' anyX_calm (v := _) 0 rfl (by kernel_rfl) (by rfl) (fun W hW => ?_) ?_; rotate_left
  · ((try dsimp only at hW); go_simp; first | done | rfl)
  (try simp only [Act.put]); (try simp only [List.setIfInBounds_toArray, List.set_cons_zero, List.set_cons_succ])
  refine' anyX_calm (v := _) 2 rfl (by kernel_rfl) (by rfl) (fun W hW => ?_) ?_; rotate_left
  · ((try dsimp only at hW); go_simp; first | done | rfl)
  (try simp only [Act.put]); (try simp only [List.setIfInBounds_toArray, List.set_cons_zero, List.set_cons_succ])
  refine' anyX_calm (v := _) 3 rfl (by kernel_rfl) (by rfl) (fun W hW => ?_) ?_; rotate_left
  · ((try dsimp only at hW); go_simp; first | done | rfl)
  (try simp only [Act.put]); (try simp only [List.setIfInBounds_toArray, List.set_cons_zero, List.set_cons_succ])
  refine' anyX_calm (v := _) 4 rfl (by kernel_rfl) (by rfl) (fun W hW => ?_) ?_; rotate_left
  · ((try dsimp only at hW); go_simp; first | done | rfl)
  (try simp only [Act.put]); (try simp only [List.setIfInBounds_toArray, List.set_cons_zero, List.set_cons_succ])
  refine' anyX_calm (v := _) 5 rfl (by kernel_rfl) (by rfl) (fun W hW => ?_) ?_; rotate_left
  · ((try dsimp only at hW); go_simp; first | done | rfl)
  (try simp only [Act.put]); (try simp only [List.setIfInBounds_toArray, List.set_cons_zero, List.set_cons_succ])
  refine' anyX_calm (v := _) 6 rfl (by kernel_rfl) (by rfl) (fun W hW => ?_) ?_; rotate_left
  · ((try dsimp only at hW); go_simp; first | done | rfl)
  (try simp only [Act.put]); (try simp only [List.setIfInBounds_toArray, List.set_cons_zero, List.set_cons_succ])
  refine' anyX_calm (v := _) 7 rfl (by kernel_rfl) (by rfl) (fun W hW => ?_) ?_; rotate_left
  · ((try dsimp only at hW); go_simp; first | done | rfl)
  (try simp only [Act.put]); (try simp only [List.setIfInBounds_toArray, List.set_cons_zero, List.set_cons_succ])
  refine' anyX_calm (v := _) 9 rfl (by kernel_rfl) (by rfl) (fun W hW => ?_) ?_; rotate_left
  · ((try dsimp only at hW); go_simp; first | done | rfl)
  (try simp only [Act.put]); (try simp only [List.setIfInBounds_toArray, List.set_cons_zero, List.set_cons_succ])
  refine' anyX_calm (v := _) 10 rfl (by kernel_rfl) (by rfl) (fun W hW => ?_) ?_; rotate_left
  · ((try dsimp only at hW); go_simp; first | done | rfl)
  (try simp only [Act.put]); (try simp only [List.setIfInBounds_toArray, List.set_cons_zero, List.set_cons_succ])
  refine' anyX_calm (v := _) 11 rfl (by kernel_rfl) (by rfl) (fun W hW => ?_) ?_; rotate_left
  · ((try dsimp only at hW); go_simp; first | done | rfl)
  (try simp only [Act.put]); (try simp only [List.setIfInBounds_toArray, List.set_cons_zero, List.set_cons_succ])
  refine' anyX_calm (v := _) 12 rfl (by kernel_rfl) (by rfl) (fun W hW => ?_) ?_; rotate_left
  · ((try dsimp only at hW); go_simp; first | done | rfl)
  (try simp only [Act.put]); (try simp only [List.setIfInBounds_toArray, List.set_cons_zero, List.set_cons_succ])
  refine' anyX_calm (v := _) 13 rfl (by kernel_rfl) (by rfl) (fun W hW => ?_) ?_; rotate_left
  · ((try dsimp only at hW); go_simp; first | done | rfl)
  (try simp only [Act.put]); (try simp only [List.setIfInBounds_toArray, List.set_cons_zero, List.set_cons_succ])
  refine' anyX_calm (v := _) 14 rfl (by kernel_rfl) (by rfl) (fun W hW => ?_) ?_; rotate_left
  · ((try dsimp only at hW); go_simp; first | done | rfl)
  (try simp only [Act.put]); (try simp only [List.setIfInBounds_toArray, List.set_cons_zero, List.set_cons_succ])
  refine' anyX_calm (v := _) 15 rfl (by kernel_rfl) (by rfl) (fun W hW => ?_) ?_; rotate_left
  · ((try dsimp only at hW); go_simp; first | done | rfl)
  (try simp only [Act.put]); (try simp only [List.setIfInBounds_toArray, List.set_cons_zero, List.set_cons_succ])
  refine anyX_does 1 rfl (by kernel_rfl) (by rfl) (fun K hK => ?_)
  go_simp
  have K0 : Keep (fun _ => False) w (World.alloc w (.cells #[] 3)).drew := ((Keep.refl _ _).alloc _).drew
  have hrow : OwnI (World.alloc w (.cells #[] 3)).drew (.slice (some ⟨w.heap.size, 0, none⟩) 0 0) [] := OwnI.keep (made_rowI w) ((Keep.refl (fun _ => False) _).drew) (fun _ _ h => h)
  refine hK _ _ ((K0.cell (p := ⟨b, 2, none⟩) hb (fun h => h)).trans c0) ?_
  clear hK K
  (try simp only [Act.put]); (try simp only [List.setIfInBounds_toArray, List.set_cons_zero, List.set_cons_succ])
  refine anyX_does 8 rfl (by kernel_rfl) (by rfl) (fun K hK => ?_)
  have hs1 : Src (World.alloc w (.cells #[] 3)).drew (.slice (some ⟨g, 0, none⟩) i cap) i 1 (flat1 (who.take i)) :=
    (own_part OA.out 0 i cap (who.take i) (by simp) (by rw [List.length_take, LW.out]; omega)).keep K0 (fun _ _ h => h)
  refine wp_append_ints _ (.tmp 5) (.tmp 11) rfl _ [] rfl hrow _ i (who.take i) rfl hs1 (by simp; omega) ?_
  intro v1 W1 o1 f1 k1
  try rw [List.nil_append] at o1
  have K1 : Keep (fun _ => False) w W1 := K0.then k1 (fun k hk => .inr (by have := Option.some.inj hk; dsimp only at this; exact Nat.le_of_eq this))
  have F1 : ∀ k, v1.ownBlock = some k → (w).heap.size ≤ k := fun k hk => (f1 k hk).elim (fun h => by have := Option.some.inj h; dsimp only at this; exact Nat.le_of_eq this) (fun h => Nat.le_trans K0.size h)
  have hs2 : Src W1 (.slice (some (if cap = i + 1 then ⟨g, 0, none⟩ else ⟨g, i + 1, none⟩)) (n - i) (cap - (i + 1))) (n - i) 1 (flat1 (who.drop (i + 1))) := (src_behindM OA.out LW.out hi _ rfl).keep K1 (fun _ _ h => h)
  obtain ⟨a1, n1, hv1⟩ := o1.form
  have hl1 : (who.take i).length = i := by rw [List.length_take, LW.out]; omega
  rw [hl1] at hv1
  subst hv1
  refine hK _ _ ((K1.cell (p := ⟨b, 2, none⟩) hb (fun h => h)).trans c0) ?_
  clear hK K f1 k1 hs1 hrow K0
  (try simp only [Act.put]); (try simp only [List.setIfInBounds_toArray, List.set_cons_zero, List.set_cons_succ])
  refine anyX_does 16 rfl (by kernel_rfl) (by rfl) (fun K hK => ?_)
  refine wp_append_ints _ (.tmp 12) (.tmp 19) rfl _ (who.take i) rfl o1 _ (n - i) (who.drop (i + 1)) ?_ hs2 (by rw [hl1]; omega) ?_
  · show Value.slice (if cap = i + 1 then some { block := g, off := 0 } else some { block := g, off := i + 1 }) (n - i) (cap - (i + 1)) = _
    split <;> rfl
  intro y2 W2 o2 f2 k2
  rw [← List.eraseIdx_eq_take_drop_succ] at o2
  have K3 : Keep (fun _ => False) w W2 := K1.then k2 (fun k hk => .inr (F1 k hk))
  have F2 : ∀ k, y2.ownBlock = some k → (w).heap.size ≤ k := fun k hk => (f2 k hk).elim (fun h => F1 k h) (fun h => Nat.le_trans K1.size h)
  obtain ⟨h2, hf⟩ := M.out.sp V0.out (K3.mono fun _ _ h => h.elim)
  rw [EV.out] at h2
  have st : StepM 46 w0 G w (W2.setCell ⟨b, 2, none⟩ y2) b (rsc z f (who.eraseIdx i) many) := MNew.stored N0.out M.out hGb GV.out V0.out (K3.mono fun _ _ h => h.elim) o2 (fun k hk => .inr (F2 k hk))
  obtain ⟨a2, n2, hv2⟩ := o2.form
  generalize (who.eraseIdx i).length = m2 at hv2
  subst hv2
  have FIN0 := hid st
  refine hK _ _ h2 ?_
  clear hK K K3 o2 K1 F1 o1 F2 f2 k2 hs2 st
  (try simp only [Act.put]); (try simp only [List.setIfInBounds_toArray, List.set_cons_zero, List.set_cons_succ])
  generalize (if cap = i + 1 then some ({ block := g, off := 0 } : Addr) else some { block := g, off := i + 1 }) = AA
  refine' anyX_calm (v := _) 17 rfl (by kernel_rfl) (by rfl) (fun W hW => ?_) ?_; rotate_left
  · ((try dsimp only at hW); go_simp; first | done | rfl)
  (try simp only [Act.put]); (try simp only [List.setIfInBounds_toArray, List.set_cons_zero, List.set_cons_succ])
  refine' anyX_calm (v := _) 18 rfl (by kernel_rfl) (by rfl) (fun W hW => ?_) ?_; rotate_left
  · ((try dsimp only at hW); go_simp; first | done | rfl)
  (try simp only [Act.put]); (try simp only [List.setIfInBounds_toArray, List.set_cons_zero, List.set_cons_succ])
  refine anyX_last 19 rfl (by kernel_rfl) (by rfl) (fun K hK => ?_)
  go_simp
  all_goals
    refine hK _ _ ?_
    clear hK K
    obtain ⟨G1, N1, J1, K1⟩ := FIN0.out
    obtain ⟨Wb, hWb⟩ : ∃ x, W2.setCell ⟨b, 2, none⟩ (.slice a2 m2 n2) = x := ⟨_, rfl⟩
    try rw [hWb]
    rw [hWb] at N1 K1
    have N1 := hid N1
    have JK1 := hid (And.intro J1 K1)
    clear J1 K1 hWb FIN0 h2 hf c0 b3 b4 b6 hcm' hg hlc hb
    have o0 := N1.out.rs
    obtain ⟨hGb, vs, vW, vM, hM, hvs, v2, v3, oW, oM, -, -, c2, c3⟩ := o0
    have hb := hM.lt
    obtain ⟨g, cap, hv, hg, hlc, hcm, -⟩ := ownI_row oM (by rw [LM.out]; omega)
    rw [LM.out] at hv hlc
    have EV := hid hv
    have M := hid hM
    have GV := hid hvs
    have V0 := hid v3
    have OA := oM
    rw [hv] at c3 OA
    have OA := hid OA
    have c0 := c3
    have hcm' : cap ≤ 9223372036854775807 := by unfold maxLen at hcm; omega
    have b3 : (n : Int) + 1 ≤ (cap : Int) := by omega
    have b4 : (i : Int) ≤ (cap : Int) := by omega
    have b6 : i ≤ cap := by omega
    clear hM hvs v2 v3 oW oM hv hcm c2 c3
    go_wp2_with fail
    refine wp_region_steps [0,2,0,0,0,0,0,0,2,0,0,0,0,0,0,0,2,0,0,3] (fun W : World => W.cell? ⟨b, 3, none⟩ = some (.slice (some ⟨g, 0, none⟩) (n + 1) cap)) (by kernel_rfl) c0 ?_
    refine' anyX_calm (v := _) 0 rfl (by kernel_rfl) (by rfl) (fun W hW => ?_) ?_; rotate_left
    · ((try dsimp only at hW); go_simp; first | done | rfl)
    (try simp only [Act.put]); (try simp only [List.setIfInBounds_toArray, List.set_cons_zero, List.set_cons_succ])
    refine' anyX_calm (v := _) 2 rfl (by kernel_rfl) (by rfl) (fun W hW => ?_) ?_; rotate_left
    · ((try dsimp only at hW); go_simp; first | done | rfl)
    (try simp only [Act.put]); (try simp only [List.setIfInBounds_toArray, List.set_cons_zero, List.set_cons_succ])
    refine' anyX_calm (v := _) 3 rfl (by kernel_rfl) (by rfl) (fun W hW => ?_) ?_; rotate_left
    · ((try dsimp only at hW); go_simp; first | done | rfl)
    (try simp only [Act.put]); (try simp only [List.setIfInBounds_toArray, List.set_cons_zero, List.set_cons_succ])
    refine' anyX_calm (v := _) 4 rfl (by kernel_rfl) (by rfl) (fun W hW => ?_) ?_; rotate_left
    · ((try dsimp only at hW); go_simp; first | done | rfl)
    (try simp only [Act.put]); (try simp only [List.setIfInBounds_toArray, List.set_cons_zero, List.set_cons_succ])
    refine' anyX_calm (v := _) 5 rfl (by kernel_rfl) (by rfl) (fun W hW => ?_) ?_; rotate_left
    · ((try dsimp only at hW); go_simp; first | done | rfl)
    (try simp only [Act.put]); (try simp only [List.setIfInBounds_toArray, List.set_cons_zero, List.set_cons_succ])
    refine' anyX_calm (v := _) 6 rfl (by kernel_rfl) (by rfl) (fun W hW => ?_) ?_; rotate_left
    · ((try dsimp only at hW); go_simp; first | done | rfl)
    (try simp only [Act.put]); (try simp only [List.setIfInBounds_toArray, List.set_cons_zero, List.set_cons_succ])
    refine' anyX_calm (v := _) 7 rfl (by kernel_rfl) (by rfl) (fun W hW => ?_) ?_; rotate_left
    · ((try dsimp only at hW); go_simp; first | done | rfl)
    (try simp only [Act.put]); (try simp only [List.setIfInBounds_toArray, List.set_cons_zero, List.set_cons_succ])
    refine' anyX_calm (v := _) 9 rfl (by kernel_rfl) (by rfl) (fun W hW => ?_) ?_; rotate_left
    · ((try dsimp only at hW); go_simp; first | done | rfl)
    (try simp only [Act.put]); (try simp only [List.setIfInBounds_toArray, List.set_cons_zero, List.set_cons_succ])
    refine' anyX_calm (v := _) 10 rfl (by kernel_rfl) (by rfl) (fun W hW => ?_) ?_; rotate_left
    · ((try dsimp only at hW); go_simp; first | done | rfl)
    (try simp only [Act.put]); (try simp only [List.setIfInBounds_toArray, List.set_cons_zero, List.set_cons_succ])
    refine' anyX_calm (v := _) 11 rfl (by kernel_rfl) (by rfl) (fun W hW => ?_) ?_; rotate_left
    · ((try dsimp only at hW); go_simp; first | done | rfl)
    (try simp only [Act.put]); (try simp only [List.setIfInBounds_toArray, List.set_cons_zero, List.set_cons_succ])
    refine' anyX_calm (v := _) 12 rfl (by kernel_rfl) (by rfl) (fun W hW => ?_) ?_; rotate_left
    · ((try dsimp only at hW); go_simp; first | done | rfl)
    (try simp only [Act.put]); (try simp only [List.setIfInBounds_toArray, List.set_cons_zero, List.set_cons_succ])
    refine' anyX_calm (v := _) 13 rfl (by kernel_rfl) (by rfl) (fun W hW => ?_) ?_; rotate_left
    · ((try dsimp only at hW); go_simp; first | done | rfl)
    (try simp only [Act.put]); (try simp only [List.setIfInBounds_toArray, List.set_cons_zero, List.set_cons_succ])
    refine' anyX_calm (v := _) 14 rfl (by kernel_rfl) (by rfl) (fun W hW => ?_) ?_; rotate_left
    · ((try dsimp only at hW); go_simp; first | done | rfl)
    (try simp only [Act.put]); (try simp only [List.setIfInBounds_toArray, List.set_cons_zero, List.set_cons_succ])
    refine' anyX_calm (v := _) 15 rfl (by kernel_rfl) (by rfl) (fun W hW => ?_) ?_; rotate_left
    · ((try dsimp only at hW); go_simp; first | done | rfl)
    (try simp only [Act.put]); (try simp only [List.setIfInBounds_toArray, List.set_cons_zero, List.set_cons_succ])
    refine anyX_does 1 rfl (by kernel_rfl) (by rfl) (fun K hK => ?_)
    go_simp
    have K0 : Keep (fun _ => False) Wb (World.alloc Wb (.cells #[] 3)).drew := ((Keep.refl _ _).alloc _).drew
    have hrow : OwnI (World.alloc Wb (.cells #[] 3)).drew (.slice (some ⟨Wb.heap.size, 0, none⟩) 0 0) [] := OwnI.keep (made_rowI Wb) ((Keep.refl (fun _ => False) _).drew) (fun _ _ h => h)
    refine hK _ _ ((K0.cell (p := ⟨b, 3, none⟩) hb (fun h => h)).trans c0) ?_
    clear hK K
    (try simp only [Act.put]); (try simp only [List.setIfInBounds_toArray, List.set_cons_zero, List.set_cons_succ])
    refine anyX_does 8 rfl (by kernel_rfl) (by rfl) (fun K hK => ?_)
    have hs1 : Src (World.alloc Wb (.cells #[] 3)).drew (.slice (some ⟨g, 0, none⟩) i cap) i 1 (flat1 (many.take i)) :=
      (own_part OA.out 0 i cap (many.take i) (by simp) (by rw [List.length_take, LM.out]; omega)).keep K0 (fun _ _ h => h)
    refine wp_append_ints _ (.tmp 24) (.tmp 30) rfl _ [] rfl hrow _ i (many.take i) rfl hs1 (by simp; omega) ?_
    intro v1 W1 o1 f1 k1
    try rw [List.nil_append] at o1
    have K1 : Keep (fun _ => False) Wb W1 := K0.then k1 (fun k hk => .inr (by have := Option.some.inj hk; dsimp only at this; exact Nat.le_of_eq this))
    have F1 : ∀ k, v1.ownBlock = some k → (Wb).heap.size ≤ k := fun k hk => (f1 k hk).elim (fun h => by have := Option.some.inj h; dsimp only at this; exact Nat.le_of_eq this) (fun h => Nat.le_trans K0.size h)
    have hs2 : Src W1 (.slice (some (if cap = i + 1 then ⟨g, 0, none⟩ else ⟨g, i + 1, none⟩)) (n - i) (cap - (i + 1))) (n - i) 1 (flat1 (many.drop (i + 1))) := (src_behindM OA.out LM.out hi _ rfl).keep K1 (fun _ _ h => h)
    obtain ⟨a1, n1, hv1⟩ := o1.form
    have hl1 : (many.take i).length = i := by rw [List.length_take, LM.out]; omega
    rw [hl1] at hv1
    subst hv1
    refine hK _ _ ((K1.cell (p := ⟨b, 3, none⟩) hb (fun h => h)).trans c0) ?_
    clear hK K f1 k1 hs1 hrow K0
    (try simp only [Act.put]); (try simp only [List.setIfInBounds_toArray, List.set_cons_zero, List.set_cons_succ])
    refine anyX_does 16 rfl (by kernel_rfl) (by rfl) (fun K hK => ?_)
    refine wp_append_ints _ (.tmp 31) (.tmp 38) rfl _ (many.take i) rfl o1 _ (n - i) (many.drop (i + 1)) ?_ hs2 (by rw [hl1]; omega) ?_
    · show Value.slice (if cap = i + 1 then some { block := g, off := 0 } else some { block := g, off := i + 1 }) (n - i) (cap - (i + 1)) = _
      split <;> rfl
    intro y2 W2 o2 f2 k2
    rw [← List.eraseIdx_eq_take_drop_succ] at o2
    have K3 : Keep (fun _ => False) Wb W2 := K1.then k2 (fun k hk => .inr (F1 k hk))
    have F2 : ∀ k, y2.ownBlock = some k → (Wb).heap.size ≤ k := fun k hk => (f2 k hk).elim (fun h => F1 k h) (fun h => Nat.le_trans K1.size h)
    obtain ⟨h2, hf⟩ := M.out.sp V0.out (K3.mono fun _ _ h => h.elim)
    rw [EV.out] at h2
    have st : StepM 46 w0 G1 Wb (W2.setCell ⟨b, 3, none⟩ y2) b (rsc z f (who.eraseIdx i) (many.eraseIdx i)) := MNew.stored N1.out M.out hGb GV.out V0.out (K3.mono fun _ _ h => h.elim) o2 (fun k hk => .inr (F2 k hk))
    obtain ⟨a2, n2, hv2⟩ := o2.form
    generalize (many.eraseIdx i).length = m2 at hv2
    subst hv2
    have FIN := hid st
    refine hK _ _ h2 ?_
    clear hK K K3 o2 K1 F1 o1 F2 f2 k2 hs2 st
    (try simp only [Act.put]); (try simp only [List.setIfInBounds_toArray, List.set_cons_zero, List.set_cons_succ])
    generalize (if cap = i + 1 then some ({ block := g, off := 0 } : Addr) else some { block := g, off := i + 1 }) = AA
    refine' anyX_calm (v := _) 17 rfl (by kernel_rfl) (by rfl) (fun W hW => ?_) ?_; rotate_left
    · ((try dsimp only at hW); go_simp; first | done | rfl)
    (try simp only [Act.put]); (try simp only [List.setIfInBounds_toArray, List.set_cons_zero, List.set_cons_succ])
    refine' anyX_calm (v := _) 18 rfl (by kernel_rfl) (by rfl) (fun W hW => ?_) ?_; rotate_left
    · ((try dsimp only at hW); go_simp; first | done | rfl)
    (try simp only [Act.put]); (try simp only [List.setIfInBounds_toArray, List.set_cons_zero, List.set_cons_succ])
    refine anyX_last 19 rfl (by kernel_rfl) (by rfl) (fun K hK => ?_)
    go_simp
    all_goals
      refine hK _ _ ?_
      clear hK K
      go_wp2
      all_goals
        go_end0
        exact ⟨rfl, StepM.trans ⟨N1.out, JK1.out.1, JK1.out.2⟩ FIN.out⟩
end
end Go.Proofs.Ytegpoocmhamlpaa
