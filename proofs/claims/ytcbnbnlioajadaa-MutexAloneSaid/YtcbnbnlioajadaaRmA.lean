/- The walks of the reference's Mutex. -/
import Derived.Test.YtcbnbnlioajadaaObl
namespace Go.Proofs.Ytcbnbnlioajadaa
open Go Go.RowKit

/-- The parts of a list of the call's own. -/
theorem own_part {w : World} {g c : Nat} {n : Nat} {l : List Int} (h : OwnI w (.slice (some ⟨g, 0, none⟩) n c) l) (off m d : Nat) (s : List Int) (hs : s = (l.drop off).take m) (hm : s.length = m) : Src w (.slice (some ⟨g, off, none⟩) m d) m 1 (flat1 s) := by
  refine .inr ⟨_, _, rfl, by rw [flat1_length, hm, Nat.mul_one], fun j u hu => ?_, flat1_one s⟩
  have hj : j < s.length := by
    have := (List.getElem?_eq_some_iff.1 hu).1
    rwa [flat1_length] at this
  have hadd : (⟨g, off, none⟩ : Addr).add j = ⟨g, off + j, none⟩ := by unfold Addr.add; split <;> simp_all
  rw [hadd]
  subst hs
  have hlen : off + j < l.length := by simp at hj; omega
  rcases h.reads with ⟨_, _, _, h0⟩ | ⟨g', o', c', h1, _, _, hc⟩
  · rw [h0] at hlen; simp at hlen
  · simp only [Value.slice.injEq, Option.some.injEq, Addr.mk.injEq] at h1
    obtain ⟨⟨rfl, rfl, _⟩, _, _⟩ := h1
    have hcc := hc (off + j) hlen
    rw [Nat.zero_add] at hcc
    rw [hcc]
    rw [flat1_get _ j hj] at hu
    rw [← Option.some.inj hu]
    simp [nth, List.getD, List.getElem?_take, List.getElem?_drop]
    rw [if_pos (by simp at hj; omega)]

theorem wrap_plain (n : Int) (h1 : -9223372036854775808 ≤ n) (h2 : n ≤ 9223372036854775807) : IntKind.i64.wrap n = n := IntWalk.i64_in n ⟨h1, h2⟩

/-- What lies behind the i-th. -/
theorem src_behind {w : World} {g cap n i d : Nat} {l : List Int} (h : OwnI w (.slice (some ⟨g, 0, none⟩) (n + 1) cap) l) (hl : l.length = n + 1) (hi : i < n + 1) (sv : Value) (hsv : sv = .slice (some (if cap = i + 1 then ⟨g, 0, none⟩ else ⟨g, i + 1, none⟩)) (n - i) d) : Src w sv (n - i) 1 (flat1 (l.drop (i + 1))) := by
  subst hsv
  have hc := own_cap h
  split
  · have : n - i = 0 := by omega
    rw [this]
    refine own_part h 0 0 d _ ?_ ?_
    · rw [List.take_zero]; exact List.drop_eq_nil_of_le (by omega)
    · rw [List.length_drop]; omega
  · refine own_part h (i + 1) (n - i) d _ ?_ ?_
    · rw [List.take_of_length_le]; rw [List.length_drop]; omega
    · rw [List.length_drop]; omega

/-- What lies behind the first can be read. -/
theorem read_tail {w : World} {g cap : Nat} {x : Int} {l : List Int} (h : OwnI w (.slice (some ⟨g, 0, none⟩) (l.length + 1) cap) (x :: l)) (v : Value) (hv : v = .slice (some (if cap = 1 then ⟨g, 0, none⟩ else ⟨g, 1, none⟩)) l.length (cap - 1)) : ReadI w v l := by
  subst hv
  have hc := own_cap h
  split
  · have : l = [] := List.eq_nil_of_length_eq_zero (by omega)
    subst this
    exact .inl ⟨_, _, rfl, rfl⟩
  · rcases h.reads with ⟨_, _, _, h0⟩ | ⟨g', o', c', h1, h2, h3, h4⟩
    · cases h0
    · simp only [Value.slice.injEq, Option.some.injEq, Addr.mk.injEq] at h1
      obtain ⟨⟨rfl, rfl, _⟩, _, rfl⟩ := h1
      refine .inr ⟨g, 1, _, rfl, h2, by simp at h3; omega, fun i hi => ?_⟩
      have := h4 (i + 1) (by simp; omega)
      rw [Nat.zero_add, Nat.add_comm i 1] at this
      rw [this, Nat.add_comm 1 i]
      simp [nth]


section
variable {w0 w : World} {G : Nat → Prop} {b : Nat} {l : List Int}

set_option maxHeartbeats 1000000 in
theorem nat_any (t : Int) (h : LNew 49 w0 w G b [] l) (hn : l.length ≤ 1000) :
    Calls Try.prog 42 #[.pointer (some ⟨b, 0, none⟩), .int .i64 t] w fun e w' => e = .returned (.int .i64 (idx l t)) ∧ w = w' := by
  obtain ⟨⟨_, _, v, h, _⟩, _⟩ := h
  have h1 : w.cell? ⟨b, 0, none⟩ = some v := h.list
  have H := hid h.own.reads
  obtain ⟨a, c, hv⟩ := h.own.form
  have V := hid hv
  rw [hv] at h1
  clear h hv
  go_enter Try.func42, Try.ntmps42
  go_wp2_with fail
  go_loop [5] (fun i => ∃ k : Nat, k ≤ l.length ∧ i = .int .i64 k ∧ (∀ j, j < k → nth l j ≠ t)) (fun i => l.length - (intOf i).toNat)
  case atStart => exact ⟨0, by omega, rfl, fun j h => absurd h (Nat.not_lt_zero j)⟩
  case round =>
    obtain ⟨k, hk, rfl, hno⟩ := hrel
    have N := hid hno
    by_cases hlt : k < l.length
    · obtain ⟨g, off, hav, hcell, hmax⟩ : ∃ g off, a = some ⟨g, off, none⟩ ∧ w.cell? ⟨g, off + k, none⟩ = some (.int .i64 (nth l k)) ∧ l.length ≤ maxLen := by
        obtain ⟨_, _, _, h0⟩ | ⟨g, off, c', h1, _, hm, hc⟩ := H.out
        · rw [h0] at hlt; simp at hlt
        · rw [V.out] at h1; cases h1; exact ⟨g, off, rfl, hc k hlt, hm⟩
      subst hav
      unfold maxLen at hmax
      clear hno
      go_wp2
      · have ht : (nth l k == t) = true := by assumption
        have e : idx l t = k := idx_some hlt (by have := ht; simp at this; exact this) N.out
        have E := hid e
        go_ret
        exact ⟨by rw [E.out]; rfl, rfl⟩
      · have ht : (nth l k == t) = false := by assumption
        go_round
        case rel =>
          refine ⟨k + 1, by omega, by go_num, fun j hj => ?_⟩
          by_cases e : j = k
          · subst e; intro h; simp [h] at ht
          · exact N.out j (by omega)
        case measure => simp [intOf]; omega
    · have e : idx l t = -1 := idx_none (fun i hi => hno i (by omega))
      have E := hid e
      clear hno e
      go_wp2
      go_ret
      exact ⟨by rw [E.out]; rfl, rfl⟩


set_option maxRecDepth 10000 in
set_option maxHeartbeats 2000000 in
theorem ndrop_in (t : Int) (i : Nat) (hi : i < l.length) (hi1 : 1 ≤ i) (X : Hid (idx l t = i)) (h : LNew 49 w0 w G b [] l) (hn : l.length ≤ 1000) :
    Calls Try.prog 26 #[.pointer (some ⟨b, 0, none⟩), .int .i64 t] w fun en w' => en = .returned (.bool true) ∧ StepL 49 w0 G w w' b [] (l.eraseIdx i) := by
  have HH := hid h
  obtain ⟨⟨hGb, hG, v, h, hGv⟩, _⟩ := h
  have h2 : w.cell? ⟨b, 0, none⟩ = some v := h.list
  have H := hid h
  clear h
  obtain ⟨g, cap, rfl, hcm⟩ : ∃ g cap, v = .slice (some ⟨g, 0, none⟩) l.length cap ∧ cap ≤ maxLen := by
    rcases H.out.own.2 with ⟨_, h0⟩ | ⟨g, cap, cur, h1, _, _, _, h2, _⟩
    · omega
    · exact ⟨g, cap, h1, h2⟩
  have hcm' : cap ≤ 9223372036854775807 := by unfold maxLen at hcm; omega
  have hcap := own_cap H.out.own
  obtain ⟨n, hln⟩ : ∃ n, l.length = n + 1 := ⟨l.length - 1, by omega⟩
  have LN := hid hln
  rw [hln] at h2 H hi hn hcap hGv
  have hb := H.out.lt
  have b0 : ¬ ((i : Int) < 1) := by omega
  have b1 : (i : Int) + 1 ≤ (n : Int) + 1 := by omega
  have b2 : i + 1 ≤ n + 1 := by omega
  have b3 : (n : Int) + 1 ≤ (cap : Int) := by omega
  have b4 : (i : Int) ≤ (cap : Int) := by omega
  have b5 : (0 : Int) ≤ (i : Int) := by omega
  have b6 : i ≤ cap := by omega
  have b7 : (i : Int) + 1 ≤ 1000 := by omega
  have hw : IntKind.i64.wrap ((i : Int) + 1) = (i : Int) + 1 := wrap_plain _ (by omega) (by omega)
  have hw1 : ((i : Int) + 1).toNat = i + 1 := by omega
  have b8 : (0 : Int) ≤ (i : Int) + 1 := by omega
  clear hln hcm
  go_enter Try.func26, Try.ntmps26
  go_wp2_with fail
  refine (nat_any t HH.out (by rw [LN.out]; exact hn)).mono ?_
  rintro _ _ ⟨rfl, rfl⟩
  rw [X.out]
  go_wp2
  refine wp_region_steps [0,2,0,0,0,0,0,0,2,0,0,0,0,0,0,0,2,0,0,3] (fun W : World => W.cell? ⟨b, 0, none⟩ = some (.slice (some ⟨g, 0, none⟩) (n + 1) cap)) (by kernel_rfl) h2 ?_
  refine' anyX_calm (v := _) 0 rfl (by kernel_rfl) (by rfl) (fun W hW => ?_) ?_; rotate_left
  · ((try dsimp only at hW); go_simp; first | done | rfl)
  try simp only [Act.put, List.setIfInBounds_toArray, List.set_cons_zero, List.set_cons_succ]
  refine' anyX_calm (v := _) 2 rfl (by kernel_rfl) (by rfl) (fun W hW => ?_) ?_; rotate_left
  · ((try dsimp only at hW); go_simp; first | done | rfl)
  try simp only [Act.put, List.setIfInBounds_toArray, List.set_cons_zero, List.set_cons_succ]
  refine' anyX_calm (v := _) 3 rfl (by kernel_rfl) (by rfl) (fun W hW => ?_) ?_; rotate_left
  · ((try dsimp only at hW); go_simp; first | done | rfl)
  try simp only [Act.put, List.setIfInBounds_toArray, List.set_cons_zero, List.set_cons_succ]
  refine' anyX_calm (v := _) 4 rfl (by kernel_rfl) (by rfl) (fun W hW => ?_) ?_; rotate_left
  · ((try dsimp only at hW); go_simp; first | done | rfl)
  try simp only [Act.put, List.setIfInBounds_toArray, List.set_cons_zero, List.set_cons_succ]
  refine' anyX_calm (v := _) 5 rfl (by kernel_rfl) (by rfl) (fun W hW => ?_) ?_; rotate_left
  · ((try dsimp only at hW); go_simp; first | done | rfl)
  try simp only [Act.put, List.setIfInBounds_toArray, List.set_cons_zero, List.set_cons_succ]
  refine' anyX_calm (v := _) 6 rfl (by kernel_rfl) (by rfl) (fun W hW => ?_) ?_; rotate_left
  · ((try dsimp only at hW); go_simp; first | done | rfl)
  try simp only [Act.put, List.setIfInBounds_toArray, List.set_cons_zero, List.set_cons_succ]
  refine' anyX_calm (v := _) 7 rfl (by kernel_rfl) (by rfl) (fun W hW => ?_) ?_; rotate_left
  · ((try dsimp only at hW); go_simp; first | done | rfl)
  try simp only [Act.put, List.setIfInBounds_toArray, List.set_cons_zero, List.set_cons_succ]
  refine' anyX_calm (v := _) 9 rfl (by kernel_rfl) (by rfl) (fun W hW => ?_) ?_; rotate_left
  · ((try dsimp only at hW); go_simp; first | done | rfl)
  try simp only [Act.put, List.setIfInBounds_toArray, List.set_cons_zero, List.set_cons_succ]
  refine' anyX_calm (v := _) 10 rfl (by kernel_rfl) (by rfl) (fun W hW => ?_) ?_; rotate_left
  · ((try dsimp only at hW); go_simp; first | done | rfl)
  try simp only [Act.put, List.setIfInBounds_toArray, List.set_cons_zero, List.set_cons_succ]
  refine' anyX_calm (v := _) 11 rfl (by kernel_rfl) (by rfl) (fun W hW => ?_) ?_; rotate_left
  · ((try dsimp only at hW); go_simp; first | done | rfl)
  try simp only [Act.put, List.setIfInBounds_toArray, List.set_cons_zero, List.set_cons_succ]
  refine' anyX_calm (v := _) 12 rfl (by kernel_rfl) (by rfl) (fun W hW => ?_) ?_; rotate_left
  · ((try dsimp only at hW); go_simp; first | done | rfl)
  try simp only [Act.put, List.setIfInBounds_toArray, List.set_cons_zero, List.set_cons_succ]
  refine' anyX_calm (v := _) 13 rfl (by kernel_rfl) (by rfl) (fun W hW => ?_) ?_; rotate_left
  · ((try dsimp only at hW); go_simp; first | done | rfl)
  try simp only [Act.put, List.setIfInBounds_toArray, List.set_cons_zero, List.set_cons_succ]
  refine' anyX_calm (v := _) 14 rfl (by kernel_rfl) (by rfl) (fun W hW => ?_) ?_; rotate_left
  · ((try dsimp only at hW); go_simp; first | done | rfl)
  try simp only [Act.put, List.setIfInBounds_toArray, List.set_cons_zero, List.set_cons_succ]
  refine' anyX_calm (v := _) 15 rfl (by kernel_rfl) (by rfl) (fun W hW => ?_) ?_; rotate_left
  · ((try dsimp only at hW); go_simp; first | done | rfl)
  try simp only [Act.put, List.setIfInBounds_toArray, List.set_cons_zero, List.set_cons_succ]
  refine anyX_does 1 rfl (by kernel_rfl) (by rfl) (fun K hK => ?_)
  go_simp
  have K0 : Keep (fun _ => False) w (w.alloc (.cells #[] 3)).drew := ((Keep.refl _ _).alloc _).drew
  have hrow : OwnI (w.alloc (.cells #[] 3)).drew (.slice (some ⟨w.heap.size, 0, none⟩) 0 0) [] := OwnI.keep (made_rowI w) ((Keep.refl (fun _ => False) _).drew) (fun _ _ h => h)
  refine hK _ _ ((K0.cell (p := ⟨b, 0, none⟩) hb (fun h => h)).trans h2) ?_
  clear hK K
  try simp only [Act.put, List.setIfInBounds_toArray, List.set_cons_zero, List.set_cons_succ]
  refine anyX_does 8 rfl (by kernel_rfl) (by rfl) (fun K hK => ?_)
  have hs1 : Src (w.alloc (.cells #[] 3)).drew (.slice (some ⟨g, 0, none⟩) i cap) i 1 (flat1 (l.take i)) :=
    (own_part H.out.own 0 i cap (l.take i) (by simp) (by rw [List.length_take, LN.out]; omega)).keep K0 (fun _ _ h => h)
  refine wp_append_ints _ (.tmp 12) (.tmp 18) rfl _ [] rfl hrow _ i (l.take i) rfl hs1 (by simp; omega) ?_
  intro v1 W1 o1 f1 k1
  try rw [List.nil_append] at o1
  have K1 : Keep (fun _ => False) w W1 := K0.then k1 (fun k hk => .inr (by have := Option.some.inj hk; dsimp only at this; omega))
  have F1 : ∀ k, v1.ownBlock = some k → w.heap.size ≤ k := fun k hk => (f1 k hk).elim (fun h => by have := Option.some.inj h; dsimp only at this; omega) (fun h => by have := K0.size; omega)
  have hs2 : Src W1 (.slice (some (if cap = i + 1 then ⟨g, 0, none⟩ else ⟨g, i + 1, none⟩)) (n - i) (cap - (i + 1))) (n - i) 1 (flat1 (l.drop (i + 1))) := (src_behind H.out.own LN.out hi _ rfl).keep K1 (fun _ _ h => h)
  obtain ⟨a1, n1, hv1⟩ := o1.form
  have hl1 : (l.take i).length = i := by rw [List.length_take, LN.out]; omega
  rw [hl1] at hv1
  subst hv1
  refine hK _ _ ((K1.cell (p := ⟨b, 0, none⟩) hb (fun h => h)).trans h2) ?_
  clear hK K f1 k1 hs1 hrow K0
  try simp only [Act.put, List.setIfInBounds_toArray, List.set_cons_zero, List.set_cons_succ]
  refine anyX_does 16 rfl (by kernel_rfl) (by rfl) (fun K hK => ?_)
  refine wp_append_ints _ (.tmp 19) (.tmp 26) rfl _ (l.take i) rfl o1 _ (n - i) (l.drop (i + 1)) ?_ hs2 (by rw [hl1]; omega) ?_
  · show Value.slice (if cap = i + 1 then some { block := g, off := 0 } else some { block := g, off := i + 1 }) (n - i) (cap - (i + 1)) = _
    split <;> rfl
  intro v2 W2 o2 f2 k2
  rw [← List.eraseIdx_eq_take_drop_succ] at o2
  have K3 : Keep (fun _ => False) w W2 := K1.then k2 (fun k hk => .inr (F1 k hk))
  have F2 : ∀ k, v2.ownBlock = some k → w.heap.size ≤ k := fun k hk => (f2 k hk).elim (fun h => F1 k h) (fun h => by have := K1.size; omega)
  obtain ⟨a2, n2, hv2⟩ := o2.form
  generalize (l.eraseIdx i).length = m2 at hv2
  subst hv2
  have hr := (K3.block b hb (fun h => h)).trans H.out.row
  have hne : (Value.slice a2 m2 n2).ownBlock ≠ some b := fun e => by have := F2 b e; omega
  have H1 := hid (OblAt.setList hr o2 hne)
  have h2' := (K3.cell (p := ⟨b, 0, none⟩) hb (fun h => h)).trans h2
  have hf : W2.frozen? ⟨b, 0, none⟩ = false := by simp [World.frozen?, hr]
  have HK := hid (K3.mono (G := G) fun k _ e => e.elim)
  have HF : Hid (∀ k, (Value.slice a2 m2 n2).ownBlock = some k → G k ∨ w.heap.size ≤ k) := fun k hk => .inr (F2 k hk)
  refine hK _ _ h2' ?_
  clear hK K hne K3 hr o2 K1 F1 o1 F2 f2 k2 hs2
  try simp only [Act.put, List.setIfInBounds_toArray, List.set_cons_zero, List.set_cons_succ]
  refine' anyX_calm (v := _) 17 rfl (by kernel_rfl) (by rfl) (fun W hW => ?_) ?_; rotate_left
  · ((try dsimp only at hW); go_simp; first | done | rfl)
  try simp only [Act.put, List.setIfInBounds_toArray, List.set_cons_zero, List.set_cons_succ]
  refine' anyX_calm (v := _) 18 rfl (by kernel_rfl) (by rfl) (fun W hW => ?_) ?_; rotate_left
  · ((try dsimp only at hW); go_simp; first | done | rfl)
  try simp only [Act.put, List.setIfInBounds_toArray, List.set_cons_zero, List.set_cons_succ]
  refine anyX_last 19 rfl (by kernel_rfl) (by rfl) (fun K hK => ?_)
  go_simp
  all_goals
    refine hK _ _ ?_
    clear hK K
    go_wp2
    all_goals
      go_ret
      exact ⟨rfl, HH.out.on (AfterL.mk HK.out hGb _ H1.out HF.out)⟩

set_option maxHeartbeats 1000000 in
theorem ndrop_no (t : Int) (X : Hid (idx l t = -1 ∨ idx l t = 0)) (h : LNew 49 w0 w G b [] l) (hn : l.length ≤ 1000) :
    Calls Try.prog 26 #[.pointer (some ⟨b, 0, none⟩), .int .i64 t] w fun en w' => en = .returned (.bool false) ∧ w = w' := by
  go_enter Try.func26, Try.ntmps26
  go_wp2_with fail
  refine (nat_any t h hn).mono ?_
  rintro _ _ ⟨rfl, rfl⟩
  rcases X.out with e | e
  all_goals
    rw [e]
    go_wp2
    go_ret
    exact ⟨rfl, rfl⟩

set_option maxHeartbeats 1000000 in
theorem nholder_any (h : LNew 49 w0 w G b [] l) :
    Calls Try.prog 33 #[.pointer (some ⟨b, 0, none⟩)] w fun en w' => en = .returned (.int .i64 (l.headD 0)) ∧ w = w' := by
  obtain ⟨⟨hGb, hG, v, h, hGv⟩, _⟩ := h
  have h2 : w.cell? ⟨b, 0, none⟩ = some v := h.list
  have H := hid h.own.reads
  obtain ⟨a0, n0, hv⟩ := h.own.form
  have HV := hid hv
  rw [hv] at h2
  clear h hv hGv
  cases l with
  | nil =>
    go_enter Try.func33, Try.ntmps33
    go_wp2
    go_ret
    exact ⟨rfl, rfl⟩
  | cons x l =>
    obtain ⟨g, off, rfl, hx⟩ : ∃ g off, a0 = some ⟨g, off, none⟩ ∧ w.cell? ⟨g, off, none⟩ = some (.int .i64 x) := by
      rcases H.out with ⟨_, _, _, h0⟩ | ⟨g, off, c, h1, _, _, hc⟩
      · cases h0
      · rw [HV.out] at h1
        simp only [Value.slice.injEq] at h1
        exact ⟨g, off, h1.1, by simpa [nth] using hc 0 (by simp)⟩
    have h3 : ((l.length : Int) + 1 == 0) = false := by simp; omega
    have h4 : (0 : Int) < (l.length : Int) + 1 := by omega
    go_enter Try.func33, Try.ntmps33
    go_wp2
    go_ret
    exact ⟨rfl, rfl⟩
set_option maxRecDepth 10000 in
set_option maxHeartbeats 1000000 in
theorem nwaits_any (h : LNew 49 w0 w G b [] l) (hn : l.length ≤ 1000) :
    Calls Try.prog 35 #[.pointer (some ⟨b, 0, none⟩)] w fun en w' => ∃ v', en = .returned v' ∧ ReadI w v' l.tail ∧ w = w' := by
  obtain ⟨⟨hGb, hG, v, h, hGv⟩, _⟩ := h
  have h2 : w.cell? ⟨b, 0, none⟩ = some v := h.list
  have H := hid h.own
  obtain ⟨a0, n0, hv⟩ := h.own.form
  have HV := hid hv
  rw [hv] at h2
  clear h hv hGv
  cases l with
  | nil =>
    go_enter Try.func35, Try.ntmps35
    go_wp2
    go_ret
    exact ⟨_, rfl, .inl ⟨_, _, rfl, rfl⟩, rfl⟩
  | cons x l =>
    obtain ⟨g, cap, hvf, hcm⟩ : ∃ g cap, v = .slice (some ⟨g, 0, none⟩) (l.length + 1) cap ∧ cap ≤ maxLen := by
      rcases H.out.2 with ⟨_, h0⟩ | ⟨g, cap, cur, h1, _, _, _, h2, _⟩
      · simp at h0
      · exact ⟨g, cap, h1, h2⟩
    have H2 := H.out
    rw [hvf] at H2
    have hcap := own_cap H2
    have HV2 := HV.out
    rw [hvf] at HV2
    simp only [Value.slice.injEq] at HV2
    obtain ⟨rfl, hz, rfl⟩ := HV2
    clear hz
    have T := hid (read_tail H2)
    have hcm' : cap ≤ 9223372036854775807 := by unfold maxLen at hcm; omega
    have h3 : ((l.length : Int) + 1 == 0) = false := by simp; omega
    have h4 : (1 : Int) ≤ (l.length : Int) + 1 := by omega
    have h5 : (l.length : Int) + 1 ≤ (cap : Int) := by omega
    have h6 : 1 ≤ cap := by omega
    clear hvf H2 hcm H HV
    go_enter Try.func35, Try.ntmps35
    go_wp2
    all_goals
      go_ret
      first
        | exact ⟨_, rfl, T.out _ (by first | rfl | (split <;> rfl) | simp_all), rfl⟩
        | trace_state


/-- What a Want answers, and the row then. -/
def rwt (l : List Int) (t : Int) (wait : Bool) : Int × List Int :=
  if t < 1 then (1, l) else if t ∈ l then (11, l) else if 0 < l.length ∧ wait = false then (12, l) else (if l.length = 0 then 0 else 14, l ++ [t])

set_option maxRecDepth 10000 in
set_option maxHeartbeats 2000000 in
theorem nwant_any (t : Int) (wait : Bool) (h : LNew 49 w0 w G b [] l) (hn : l.length ≤ 1000) {e : Int} {l' : List Int} (hq : rwt l t wait = (e, l')) :
    Calls Try.prog 28 #[.pointer (some ⟨b, 0, none⟩), .int .i64 t, .bool wait] w fun en w' => en = .returned (.int .i64 e) ∧ StepL 49 w0 G w w' b [] l' := by
  have HH := hid h
  obtain ⟨⟨hGb, hG, v, h, hGv⟩, _⟩ := h
  have h2 : w.cell? ⟨b, 0, none⟩ = some v := h.list
  have H := hid h
  obtain ⟨a0, n0, hv⟩ := h.own.form
  have HV := hid hv
  rw [hv] at h2
  clear h hv
  have same : Hid (StepL 49 w0 G w w b [] l) := HH.out.on HH.out.1.after
  by_cases ht : t < 1
  · obtain ⟨rfl, rfl⟩ : 1 = e ∧ l = l' := by simpa [rwt, ht] using hq
    clear hq
    go_enter Try.func28, Try.ntmps28
    go_wp2
    go_ret
    exact ⟨rfl, same.out⟩
  by_cases hm : t ∈ l
  · obtain ⟨rfl, rfl⟩ : 11 = e ∧ l = l' := by simpa [rwt, ht, hm] using hq
    have hi := hid (idx_in hm)
    have hi0 : (0 : Int) ≤ ((l.idxOf t : Nat) : Int) := by omega
    clear hm hq
    go_enter Try.func28, Try.ntmps28
    go_wp2_with fail
    refine (nat_any t HH.out hn).mono ?_
    rintro _ _ ⟨rfl, rfl⟩
    rw [hi.out]
    go_wp2
    go_ret
    exact ⟨rfl, same.out⟩
  have hi := hid (idx_out hm)
  by_cases hw : 0 < l.length ∧ wait = false
  · obtain ⟨hw1, rfl⟩ := hw
    obtain ⟨rfl, rfl⟩ : 12 = e ∧ l = l' := by
      unfold rwt at hq
      rw [if_neg ht, if_neg hm, if_pos ⟨hw1, rfl⟩] at hq
      simpa using hq
    have hw2 : (0 : Int) < (l.length : Int) := by omega
    clear hm hq
    go_enter Try.func28, Try.ntmps28
    go_wp2_with fail
    refine (nat_any t HH.out hn).mono ?_
    rintro _ _ ⟨rfl, rfl⟩
    rw [hi.out]
    go_wp2
    go_ret
    exact ⟨rfl, same.out⟩
  obtain ⟨hre, rfl⟩ : (if l.length = 0 then (0 : Int) else 14) = e ∧ l ++ [t] = l' := by
    unfold rwt at hq
    rw [if_neg ht, if_neg hm, if_neg hw] at hq
    simpa using hq
  have RE := hid hre
  have HW := hid hw
  clear hm hq hre hw
  rcases (by have := HW.out; by_cases h0 : l.length = 0
             · exact .inl ⟨h0, trivial⟩
             · exact .inr ⟨by omega, by cases wait with | true => rfl | false => exact absurd ⟨by omega, rfl⟩ this⟩ : (l.length = 0 ∧ True) ∨ (1 ≤ l.length ∧ wait = true)) with ⟨h0, -⟩ | ⟨h0, rfl⟩
  · have h00 : ¬ (0 : Int) < (l.length : Int) := by omega
    have hl0 : ((l.length : Int) + 1 == 1) = true := by simp; omega
    have hre := RE.out
    rw [if_pos h0] at hre
    subst hre
    clear h0
    have h0 : True := trivial
    go_enter Try.func28, Try.ntmps28
    go_wp2_with fail
    refine (nat_any t HH.out hn).mono ?_
    rintro _ _ ⟨rfl, rfl⟩
    rw [hi.out]
    have hb := H.out.lt
    have K0 : Keep (fun _ => False) w (w.alloc (.cells #[] 3)) := (Keep.refl _ _).alloc _
    have hrow : OwnI (w.alloc (.cells #[] 3)) (.slice (some ⟨w.heap.size, 0, none⟩) 0 0) [] := made_rowI w
    have hsrc := (H.out.own.keep K0 (fun _ _ h => h)).src
    rw [HV.out] at hsrc
    go_wp2_with (at_builtin; refine wpList_plain rfl (fun K hK => wp_append_ints _ (.tmp 24) (.tmp 28) rfl _ [] rfl hrow _ l.length l rfl hsrc (by simp; omega) ?_))
    intro v1 W1 o1 f1 k1
    try rw [List.nil_append] at o1
    have K1 : Keep (fun _ => False) w W1 := K0.then k1 (fun k hk => .inr (by have := Option.some.inj hk; dsimp only at this; omega))
    have F1 : ∀ k, v1.ownBlock = some k → w.heap.size ≤ k := fun k hk => (f1 k hk).elim (fun h => by have := Option.some.inj h; dsimp only at this; omega) (fun h => by have := K0.size; omega)
    obtain ⟨a1, n1, rfl⟩ := o1.form
    refine hK _ _ ?_
    clear hK K f1 k1 hsrc hrow K0 h00 h0
    have K2 : Keep (fun _ => False) w (W1.alloc (.cells #[.int .i64 t] 3)) := K1.alloc _
    have hown := o1.keep ((Keep.refl (fun _ => False) W1).alloc (.cells #[.int .i64 t] 3)) (fun _ _ h => h)
    have hsrc := one_srcI W1 t
    go_wp2_with (at_builtin; refine wpList_plain rfl (fun K hK => wp_append_ints _ (.tmp 29) (.tmp 31) rfl _ l rfl hown _ 1 _ rfl hsrc (by omega) ?_))
    intro v2 W2 o2 f2 k2
    have K3 : Keep (fun _ => False) w W2 := K2.then k2 (fun k hk => .inr (F1 k hk))
    have F2 : Hid (∀ k, v2.ownBlock = some k → G k ∨ w.heap.size ≤ k) := fun k hk => (f2 k hk).elim (fun h => .inr (F1 k h)) (fun h => .inr (by have := K1.size; omega))
    obtain ⟨a2, n2, hv2⟩ := o2.form
    rw [List.length_append] at hv2
    replace hv2 : v2 = .slice a2 (l.length + 1) n2 := hv2
    subst hv2
    refine hK _ _ ?_
    have f2' : ∀ b', (Value.slice a2 (l.length + 1) n2).ownBlock = some b' → w.heap.size ≤ b' := fun k hk => (f2 k hk).elim (fun h => F1 k h) (fun h => by have := K1.size; omega)
    clear hK K f2 k2 hsrc hown K2
    have hr := (K3.block b H.out.lt (fun h => h)).trans H.out.row
    have hne : (Value.slice a2 (l.length + 1) n2).ownBlock ≠ some b := fun e => by have := f2' b e; omega
    have H1 := hid (OblAt.setList hr o2 hne)
    have h1 : W2.cell? ⟨b, 0, none⟩ = some v := by rw [cell_of_row W2 b 0 _ _ _ hr]; rfl
    have hf : W2.frozen? ⟨b, 0, none⟩ = false := by simp [World.frozen?, hr]
    have HK := hid (K3.mono (G := G) fun k _ e => e.elim)
    clear f2' hne K3 hr o2 K1 F1 o1
    have h1' : ∀ u, (W2.setCell ⟨b, 0, none⟩ u).cell? ⟨b, 0, none⟩ = some u := fun u => World.cell?_setCell_same _ _ _ h1
    have g2 : (W2.setCell ⟨b, 0, none⟩ (.slice a2 (l.length + 1) n2)).cell? ⟨b, 0, none⟩ = some (.slice a2 (l.length + 1) n2) := h1' _
    go_wp2
    go_ret
    exact ⟨rfl, HH.out.on (AfterL.mk HK.out hGb _ H1.out F2.out)⟩
  · have h00 : (0 : Int) < (l.length : Int) := by omega
    have hl0 : ((l.length : Int) + 1 == 1) = false := by simp; omega
    have hre := RE.out
    rw [if_neg (by omega)] at hre
    subst hre
    go_enter Try.func28, Try.ntmps28
    go_wp2_with fail
    refine (nat_any t HH.out hn).mono ?_
    rintro _ _ ⟨rfl, rfl⟩
    rw [hi.out]
    have hb := H.out.lt
    have K0 : Keep (fun _ => False) w (w.alloc (.cells #[] 3)) := (Keep.refl _ _).alloc _
    have hrow : OwnI (w.alloc (.cells #[] 3)) (.slice (some ⟨w.heap.size, 0, none⟩) 0 0) [] := made_rowI w
    have hsrc := (H.out.own.keep K0 (fun _ _ h => h)).src
    rw [HV.out] at hsrc
    go_wp2_with (at_builtin; refine wpList_plain rfl (fun K hK => wp_append_ints _ (.tmp 24) (.tmp 28) rfl _ [] rfl hrow _ l.length l rfl hsrc (by simp; omega) ?_))
    intro v1 W1 o1 f1 k1
    try rw [List.nil_append] at o1
    have K1 : Keep (fun _ => False) w W1 := K0.then k1 (fun k hk => .inr (by have := Option.some.inj hk; dsimp only at this; omega))
    have F1 : ∀ k, v1.ownBlock = some k → w.heap.size ≤ k := fun k hk => (f1 k hk).elim (fun h => by have := Option.some.inj h; dsimp only at this; omega) (fun h => by have := K0.size; omega)
    obtain ⟨a1, n1, rfl⟩ := o1.form
    refine hK _ _ ?_
    clear hK K f1 k1 hsrc hrow K0 h00 h0
    have K2 : Keep (fun _ => False) w (W1.alloc (.cells #[.int .i64 t] 3)) := K1.alloc _
    have hown := o1.keep ((Keep.refl (fun _ => False) W1).alloc (.cells #[.int .i64 t] 3)) (fun _ _ h => h)
    have hsrc := one_srcI W1 t
    go_wp2_with (at_builtin; refine wpList_plain rfl (fun K hK => wp_append_ints _ (.tmp 29) (.tmp 31) rfl _ l rfl hown _ 1 _ rfl hsrc (by omega) ?_))
    intro v2 W2 o2 f2 k2
    have K3 : Keep (fun _ => False) w W2 := K2.then k2 (fun k hk => .inr (F1 k hk))
    have F2 : Hid (∀ k, v2.ownBlock = some k → G k ∨ w.heap.size ≤ k) := fun k hk => (f2 k hk).elim (fun h => .inr (F1 k h)) (fun h => .inr (by have := K1.size; omega))
    obtain ⟨a2, n2, hv2⟩ := o2.form
    rw [List.length_append] at hv2
    replace hv2 : v2 = .slice a2 (l.length + 1) n2 := hv2
    subst hv2
    refine hK _ _ ?_
    have f2' : ∀ b', (Value.slice a2 (l.length + 1) n2).ownBlock = some b' → w.heap.size ≤ b' := fun k hk => (f2 k hk).elim (fun h => F1 k h) (fun h => by have := K1.size; omega)
    clear hK K f2 k2 hsrc hown K2
    have hr := (K3.block b H.out.lt (fun h => h)).trans H.out.row
    have hne : (Value.slice a2 (l.length + 1) n2).ownBlock ≠ some b := fun e => by have := f2' b e; omega
    have H1 := hid (OblAt.setList hr o2 hne)
    have h1 : W2.cell? ⟨b, 0, none⟩ = some v := by rw [cell_of_row W2 b 0 _ _ _ hr]; rfl
    have hf : W2.frozen? ⟨b, 0, none⟩ = false := by simp [World.frozen?, hr]
    have HK := hid (K3.mono (G := G) fun k _ e => e.elim)
    clear f2' hne K3 hr o2 K1 F1 o1
    have h1' : ∀ u, (W2.setCell ⟨b, 0, none⟩ u).cell? ⟨b, 0, none⟩ = some u := fun u => World.cell?_setCell_same _ _ _ h1
    have g2 : (W2.setCell ⟨b, 0, none⟩ (.slice a2 (l.length + 1) n2)).cell? ⟨b, 0, none⟩ = some (.slice a2 (l.length + 1) n2) := h1' _
    go_wp2
    go_ret
    exact ⟨rfl, HH.out.on (AfterL.mk HK.out hGb _ H1.out F2.out)⟩


set_option maxHeartbeats 1000000 in
theorem nunlock_lo (t : Int) (ht : t < 1) (w : World) (b : Nat) :
    Calls Try.prog 30 #[.pointer (some ⟨b, 0, none⟩), .int .i64 t] w fun en w' => en = .returned (.tuple #[.int .i64 0, .int .i64 1]) ∧ w = w' := by
  go_enter Try.func30, Try.ntmps30
  go_wp2
  go_ret2
  exact ⟨rfl, rfl⟩

set_option maxHeartbeats 1000000 in
theorem nunlock_no (t : Int) (ht : 1 ≤ t) (hx : idx l t ≠ 0) (h : LNew 49 w0 w G b [] l) (hn : l.length ≤ 1000) :
    Calls Try.prog 30 #[.pointer (some ⟨b, 0, none⟩), .int .i64 t] w fun en w' => en = .returned (.tuple #[.int .i64 0, .int .i64 11]) ∧ w = w' := by
  have hz : (idx l t != 0) = true := by simp [hx]
  clear hx
  go_enter Try.func30, Try.ntmps30
  go_wp2_with fail
  refine (nat_any t h hn).mono ?_
  rintro _ _ ⟨rfl, rfl⟩
  generalize idx l t = x at hz ⊢
  go_wp2
  go_ret2
  exact ⟨rfl, rfl⟩

set_option maxRecDepth 10000 in
set_option maxHeartbeats 2000000 in
theorem nunlock_yes (x : Int) (hx : 1 ≤ x) (h : LNew 49 w0 w G b [] (x :: l)) (hn : l.length < 1000) :
    Calls Try.prog 30 #[.pointer (some ⟨b, 0, none⟩), .int .i64 x] w fun en w' => en = .returned (.tuple #[.int .i64 (l.headD 0), .int .i64 0]) ∧ StepL 49 w0 G w w' b [] l := by
  have HH := hid h
  obtain ⟨⟨hGb, hG, v, h, hGv⟩, _⟩ := h
  have h2 : w.cell? ⟨b, 0, none⟩ = some v := h.list
  have H := hid h
  obtain ⟨g, cap, hvf, hcm⟩ : ∃ g cap, v = .slice (some ⟨g, 0, none⟩) (l.length + 1) cap ∧ cap ≤ maxLen := by
    rcases h.own.2 with ⟨_, h0⟩ | ⟨g, cap, cur, h1, _, _, _, h2, _⟩
    · simp at h0
    · exact ⟨g, cap, h1, h2⟩
  have HV := hid hvf
  rw [hvf] at h2
  have hown := h.own
  rw [hvf] at hown
  have hcap := own_cap hown
  have hcm' : cap ≤ 9223372036854775807 := by unfold maxLen at hcm; omega
  have h4 : (1 : Int) ≤ (l.length : Int) + 1 := by omega
  have h5 : (l.length : Int) + 1 ≤ (cap : Int) := by omega
  have h6 : 1 ≤ cap := by omega
  have ix : Hid (idx (x :: l) x = 0) := hid (by rw [idx_in (by simp)]; simp)
  have HO := hid hown
  have hb := h.lt
  clear h hvf hown hcm
  have K0 : Keep (fun _ => False) w (w.alloc (.cells #[] 3)) := (Keep.refl _ _).alloc _
  have hrow : OwnI (w.alloc (.cells #[] 3)) (.slice (some ⟨w.heap.size, 0, none⟩) 0 0) [] := made_rowI w
  have hsv : Hid (∀ sv d, sv = Value.slice (some (if cap = 1 then ⟨g, 0, none⟩ else ⟨g, 1, none⟩)) l.length d → Src (w.alloc (.cells #[] 3)) sv l.length 1 (flat1 l)) := hid fun sv d e =>
    (src_behind (d := d) (i := 0) (n := l.length) (l := x :: l) HO.out rfl (by omega) sv (by rw [e]; simp)).keep K0 (fun _ _ h => h)
  obtain ⟨q, hq⟩ : ∃ q, l.headD 0 = q := ⟨_, rfl⟩
  rw [hq]
  have HQ := hid hq
  clear hq
  go_enter Try.func30, Try.ntmps30
  go_wp2_with fail
  refine (nat_any x HH.out (by simp; omega)).mono ?_
  rintro _ _ ⟨rfl, rfl⟩
  rw [ix.out]
  go_wp2_with (at_builtin; refine wpList_plain rfl (fun K hK => wp_append_ints _ (.tmp 13) (.tmp 18) rfl _ [] rfl hrow _ l.length l rfl (hsv.out _ (cap - 1) (by first | rfl | (split <;> rfl))) (by simp; omega) ?_))
  all_goals
    intro v1 W1 o1 f1 k1
    try rw [List.nil_append] at o1
    have K1 : Keep (fun _ => False) w W1 := K0.then k1 (fun k hk => .inr (by have := Option.some.inj hk; dsimp only at this; omega))
    have F1 : ∀ k, v1.ownBlock = some k → w.heap.size ≤ k := fun k hk => (f1 k hk).elim (fun h => by have := Option.some.inj h; dsimp only at this; omega) (fun h => by have := K0.size; omega)
    obtain ⟨a1, n1, hv1⟩ := o1.form
    obtain ⟨m1, hm1⟩ : ∃ m1, l.length = m1 := ⟨_, rfl⟩
    rw [hm1] at hv1
    subst hv1
    have hr := (K1.block b H.out.lt (fun h => h)).trans H.out.row
    have hne : (Value.slice a1 m1 n1).ownBlock ≠ some b := fun e => by have := F1 b e; have := H.out.lt; omega
    have H1 := OblAt.setList hr o1 hne
    have HA : AfterL 49 G w _ b [] l := AfterL.mk (K1.mono fun k _ e => e.elim) hGb _ H1 (fun k hk => .inr (F1 k hk))
    obtain ⟨G3, N3, J3, Q3⟩ := HH.out.on HA
    have N3 := hid N3
    have FIN : Hid (StepL 49 w0 G w _ b [] l) := hid ⟨G3, N3.out, J3, Q3⟩
    have h1 : W1.cell? ⟨b, 0, none⟩ = some v := by rw [cell_of_row W1 b 0 _ _ _ hr]; rfl
    have hf : W1.frozen? ⟨b, 0, none⟩ = false := by simp [World.frozen?, hr]
    refine hK _ _ ?_
    clear hK K f1 k1 hrow K0 K1 F1 hr hne H1 HA J3 Q3 o1 hm1
    go_wp2_with fail
    refine (nholder_any N3.out).mono ?_
    rintro _ _ ⟨rfl, rfl⟩
    rw [HQ.out]
    go_wp2
    go_ret2
    exact ⟨rfl, FIN.out⟩
end
end Go.Proofs.Ytcbnbnlioajadaa
