/- Lists of structs of two ints: slices.IndexFunc, slices.Delete; the walks of package sema that only read. -/
import Derived.Test.YtegpoocmhamlpaaRwD
namespace Go.Proofs.Ytegpoocmhamlpaa
open Go Go.RowKit

def at2 (l : List (Int × Int)) (i : Nat) : Int × Int := l.getD i (0, 0)

/-- The cells of a list of pairs. -/
def flat2 (l : List (Int × Int)) : List Value := l.flatMap fun p => [.int .i64 p.1, .int .i64 p.2]

theorem flat2_cons (p : Int × Int) (l : List (Int × Int)) : flat2 (p :: l) = .int .i64 p.1 :: .int .i64 p.2 :: flat2 l := rfl
theorem flat2_append (a b : List (Int × Int)) : flat2 (a ++ b) = flat2 a ++ flat2 b := by simp [flat2]
theorem flat2_length : ∀ l, (flat2 l).length = l.length * 2
  | [] => rfl
  | p :: l => by rw [flat2_cons]; simp [flat2_length l]; omega

theorem flat2_get : ∀ (l : List (Int × Int)) (i : Nat), i < l.length → (flat2 l)[i * 2]? = some (.int .i64 (at2 l i).1) ∧ (flat2 l)[i * 2 + 1]? = some (.int .i64 (at2 l i).2)
  | [], i, h => absurd h (Nat.not_lt_zero i)
  | p :: l, 0, _ => ⟨rfl, rfl⟩
  | p :: l, i + 1, h => by
    have := flat2_get l i (by simpa using h)
    rw [flat2_cons, show (i + 1) * 2 = i * 2 + 1 + 1 from by omega]
    simpa [at2] using this

theorem flat2_one : ∀ (l : List (Int × Int)) (v : Value), v ∈ flat2 l → v.oneCell' = true := by
  intro l v hv
  simp only [flat2, List.mem_flatMap] at hv
  obtain ⟨p, _, hp⟩ := hv
  simp only [List.mem_cons, List.not_mem_nil, or_false] at hp
  rcases hp with rfl | rfl <;> rfl

theorem flat2_take (l : List (Int × Int)) (i : Nat) : flat2 (l.take i) = (flat2 l).take (i * 2) := by
  induction l generalizing i with
  | nil => simp [flat2]
  | cons p l ih =>
    cases i with
    | zero => simp [flat2]
    | succ i => rw [List.take_succ_cons, flat2_cons, flat2_cons, show (i + 1) * 2 = i * 2 + 1 + 1 from by omega, List.take_succ_cons, List.take_succ_cons, ih]

theorem flat2_drop (l : List (Int × Int)) (i : Nat) : flat2 (l.drop i) = (flat2 l).drop (i * 2) := by
  induction l generalizing i with
  | nil => simp [flat2]
  | cons p l ih =>
    cases i with
    | zero => simp [flat2]
    | succ i => rw [List.drop_succ_cons, flat2_cons, show (i + 1) * 2 = i * 2 + 1 + 1 from by omega, List.drop_succ_cons, List.drop_succ_cons, ih]

/-- v is the call's own list l. -/
def OwnP (w : World) (v : Value) (l : List (Int × Int)) : Prop := w.ownsRow 0 71 2 v l.length (flat2 l)

theorem OwnP.form {w : World} {v : Value} {l : List (Int × Int)} (h : OwnP w v l) : ∃ a c, v = .slice a l.length c := owns_form h

theorem OwnP.cells {w : World} {v : Value} {l : List (Int × Int)} (h : OwnP w v l) (hn : 0 < l.length) : ∃ g c, v = .slice (some ⟨g, 0, none⟩) l.length c ∧ g < w.heap.size ∧ l.length ≤ maxLen ∧
    ∀ i, i < l.length → w.cell? ⟨g, i * 2, none⟩ = some (.int .i64 (at2 l i).1) ∧ w.cell? ⟨g, i * 2 + 1, none⟩ = some (.int .i64 (at2 l i).2) := by
  obtain ⟨h1, ⟨_, h2⟩ | ⟨g, cap, cur, rfl, _, hg, hn', hc, hs, ht⟩⟩ := h
  · omega
  · refine ⟨g, cap, rfl, lt_of_heap hg, Nat.le_trans hn' hc, fun i hi => ?_⟩
    have hv := flat2_get l i hi
    rw [← ht] at hv
    have key : ∀ j u, (cur.toList.take (l.length * 2))[j]? = some u → w.cell? ⟨g, j, none⟩ = some u := fun j u hu => by
      rw [cell_of_row w g j cur 71 (0, 0) hg]
      rw [List.getElem?_take] at hu
      split at hu
      · simpa using hu
      · cases hu
    exact ⟨key _ _ hv.1, key _ _ hv.2⟩

theorem Try.infoP : (Try.prog.info? 71).map (fun i => (i.zero, i.size, i.bytes)) = some (some (.agg #[.int .i64 0, .int .i64 0]), 2, 16) := by kernel_rfl

set_option maxHeartbeats 400000 in
theorem deletep_any {w : World} {v : Value} {l : List (Int × Int)} (i : Nat) (x y : Int) (hx : x = (i : Int)) (hy : y = (i : Int) + 1) (hi : i < l.length) (h : OwnP w v l) :
    Calls Try.prog 42 #[v, .int .i64 x, .int .i64 y] w fun e w' => ∃ v', e = .returned v' ∧ OwnP w' v' (l.eraseIdx i) ∧ v'.ownBlock = v.ownBlock ∧ Keep (fun k => v.ownBlock = some k) w w' := by
  subst hx hy
  obtain ⟨hlen, ⟨rfl, h0⟩ | ⟨g, cap, cur, rfl, _, hg, hnc, hcm, hcs, htk⟩⟩ := h
  · rw [h0] at hi; exact absurd hi (Nat.not_lt_zero _)
  obtain ⟨i0, hi0, hz0, hz1, hz2⟩ := info_parts Try.infoP
  have hcm' : cap ≤ 9223372036854775807 := by unfold maxLen at hcm; omega
  obtain ⟨n, hn⟩ : ∃ n, l.length = n + 1 := ⟨l.length - 1, by omega⟩
  rw [hn] at hi hnc htk hlen ⊢
  have e1 : ((i : Int) == (i : Int) + 1) = false := by simp; omega
  have b1 : (i : Int) + 1 ≤ (n : Int) + 1 := by omega
  have b2 : i + 1 ≤ n + 1 := by omega
  have b3 : (n : Int) + 1 ≤ (cap : Int) := by omega
  have b4 : (i : Int) ≤ (cap : Int) := by omega
  have b5 : (0 : Int) ≤ (i : Int) := by omega
  have b6 : (n : Int) ≤ (cap : Int) := by omega
  have b7 : (0 : Int) ≤ (n : Int) := by omega
  have b8 : ¬ cap = n := by omega
  have i1 : i0.size = 2 := hz1
  have HI := hid hi0
  have HZ := hid hz0
  have H1 := hid i1
  have HC := hid hcs
  have HT := hid htk
  have HG := hid hg
  have HN := hid hn
  have hs := i1
  clear hz0 hz1 hz2 hcs htk hg hlen hcm hn
  go_enter Try.func42, Try.ntmps42
  go_wp2_with fail
  refine wp_region_text [0,0,0,0,0,0,2,0] (fun _ => True) (by kernel_rfl) (by kernel_rfl) trivial ?_
  repeat (first
    | (refine' wpT_calm (v := _) (by rfl) (fun W hW => ?_) ?_; rotate_left
       · ((try dsimp only at hW); go_simp; first | done | rfl)
       simp only [Act.put, List.setIfInBounds_toArray, List.set_cons_zero, List.set_cons_succ])
    | (refine' wpT_reads (v := _) (by rfl) ?_ ?_; rotate_left
       · (go_simp; first | done | rfl)
       simp only [Act.put, List.setIfInBounds_toArray, List.set_cons_zero, List.set_cons_succ])
    | (refine wpT_skip (by rfl) rfl ?_; simp only [Act.put, List.setIfInBounds_toArray, List.set_cons_zero, List.set_cons_succ])
    | (refine wpT_does (by rfl) (fun K hK => ?_); go_simp; refine hK _ _ ?_ ?_
       · (trivial)
       clear hK K; try simp only [Act.put, List.setIfInBounds_toArray, List.set_cons_zero, List.set_cons_succ])
    | (refine wpT_last (by rfl) (fun K hK => ?_); go_simp; refine hK _ _ ?_; clear hK K)
    | (refine wpT_nil ?_))
  refine wpT_does (by rfl) (fun K hK => ?_)
  have hxs : flat2 l = cur.toList.take ((n + 1) * 2) := HT.out.symm
  have hnl : (flat2 l).length = (n + 1) * 2 := by rw [flat2_length, HN.out]
  have hread : ∀ j u, (cur.toList.take ((n + 1) * 2))[j]? = some u → w.cell? ⟨g, j, none⟩ = some u := fun j u hu => by
    rw [cell_of_row w g j cur 71 (0, 0) HG.out]
    rw [List.getElem?_take] at hu
    split at hu
    · simpa using hu
    · cases hu
  have hcur : cur.toList.length = cap * 2 := by simpa using HC.out
  refine wp_append_in _ (.tmp 22) (.tmp 25) 67 rfl 71 i0 Try.underlying67 HI.out 2 H1.out g i cap cur HG.out rfl (if cap = i + 1 then ⟨g, 0, none⟩ else ⟨g, (i + 1) * 2, none⟩) (n - i) (cap - (i + 1)) ((flat2 l).drop ((i + 1) * 2)) ?_ (by rw [List.length_drop, hnl]; omega) ?_ (fun u hu => flat2_one l u (List.mem_of_mem_drop hu)) (by omega) (by rw [List.length_drop, hnl, HC.out]; omega) ?_
  · show Value.slice (if cap = i + 1 then some { block := g, off := 0 } else some { block := g, off := (i + 1) * 2 }) (n - i) (cap - (i + 1)) = _
    split <;> rfl
  · intro j u hu
    rw [List.getElem?_drop] at hu
    have hj : (i + 1) * 2 + j < (n + 1) * 2 := by
      have := (List.getElem?_eq_some_iff.1 hu).1
      rwa [hnl] at this
    rw [if_neg (by omega)]
    have hadd : (⟨g, (i + 1) * 2, none⟩ : Addr).add j = ⟨g, (i + 1) * 2 + j, none⟩ := by unfold Addr.add; split <;> simp_all
    rw [hadd]
    rw [hxs] at hu
    exact hread _ _ hu
  refine hK _ _ trivial ?_
  clear hK K
  rw [show i + (n - i) = n by omega]
  have hcur1 : (cur.toList.take (i * 2) ++ (flat2 l).drop ((i + 1) * 2) ++ cur.toList.drop (i * 2 + ((flat2 l).drop ((i + 1) * 2)).length)).toArray.size = cap * 2 := by
    simp only [List.size_toArray, List.length_append, List.length_take, List.length_drop, hnl, hcur]; omega
  have htk1 : (cur.toList.take (i * 2) ++ (flat2 l).drop ((i + 1) * 2) ++ cur.toList.drop (i * 2 + ((flat2 l).drop ((i + 1) * 2)).length)).take (n * 2) = flat2 (l.eraseIdx i) := by
    rw [List.take_append_of_le_length (by simp only [List.length_append, List.length_take, List.length_drop, hnl, hcur]; omega), List.take_of_length_le (by simp only [List.length_append, List.length_take, List.length_drop, hnl, hcur]; omega)]
    have e2 : cur.toList.take (i * 2) = (flat2 l).take (i * 2) := by rw [hxs, List.take_take, Nat.min_eq_left (by omega)]
    rw [e2, List.eraseIdx_eq_take_drop_succ, flat2_append, flat2_take, flat2_drop]
  generalize (cur.toList.take (i * 2) ++ (flat2 l).drop ((i + 1) * 2) ++ cur.toList.drop (i * 2 + ((flat2 l).drop ((i + 1) * 2)).length)) = cs1 at hcur1 htk1 ⊢
  have hg1 := setRow_heap w.drew g cur cs1.toArray 71 (0, 0) HG.out
  have hk1 : Keep (fun k => k = g) w (w.drew.setRow g cs1.toArray) := ((Keep.refl _ w).drew).trans (setRow_keep _ _ _)
  generalize w.drew.setRow g cs1.toArray = w1 at hg1 hk1 ⊢
  have hz1 : (Builtin.zeroCells (Value.agg #[.int .i64 0, .int .i64 0]).cells 1).toList = [Value.int .i64 0, Value.int .i64 0] := by simp [Builtin.zeroCells, Value.cells, List.range, List.range.loop]
  have hcl : ∀ ty c, (Builtin.clear_ #[67] ty #[.slice (some ⟨g, n * 2, none⟩) 1 c]).run Try.prog w1 = .ok (.tuple #[]) (w1.setRow g (cs1.take (n * 2) ++ [Value.int .i64 0, Value.int .i64 0] ++ cs1.drop (n * 2 + 2)).toArray) := fun ty c => by
    have := run_clear_one (P := Try.prog) w1 67 ty 71 i0 Try.underlying67 HI.out (.agg #[.int .i64 0, .int .i64 0]) HZ.out g (n * 2) c cs1.toArray hg1 (by rw [hz1, hcur1]; simp; omega) (by rw [hz1]; simp [Value.oneCell'])
    rw [hz1] at this
    exact this
  have hg2 := setRow_heap w1 g cs1.toArray (cs1.take (n * 2) ++ [Value.int .i64 0, Value.int .i64 0] ++ cs1.drop (n * 2 + 2)).toArray 71 (0, 0) hg1
  have hk2 : Keep (fun k => k = g) w (w1.setRow g (cs1.take (n * 2) ++ [Value.int .i64 0, Value.int .i64 0] ++ cs1.drop (n * 2 + 2)).toArray) := hk1.trans (setRow_keep _ _ _)
  have hlc : cs1.length = cap * 2 := by simpa using hcur1
  have htk2 : (cs1.take (n * 2) ++ [Value.int .i64 0, Value.int .i64 0] ++ cs1.drop (n * 2 + 2)).take (n * 2) = flat2 (l.eraseIdx i) := by
    rw [List.append_assoc, List.take_append_of_le_length (by simp; omega), List.take_take, Nat.min_self, htk1]
  have hcur2 : (cs1.take (n * 2) ++ [Value.int .i64 0, Value.int .i64 0] ++ cs1.drop (n * 2 + 2)).toArray.size = cap * 2 := by simp only [List.size_toArray, List.length_append, List.length_take, List.length_drop, List.length_cons, List.length_nil, hlc]; omega
  generalize (cs1.take (n * 2) ++ [Value.int .i64 0, Value.int .i64 0] ++ cs1.drop (n * 2 + 2)) = cs2 at hcl hg2 hk2 htk2 hcur2 ⊢
  generalize w1.setRow g cs2.toArray = w2 at hcl hg2 hk2 ⊢
  have HK2 := hid hk2
  have HG2 := hid hg2
  have HT2 := hid htk2
  have HC2 := hid hcur2
  clear hg1 hk1 hcur1 htk1 hread hxs hnl hz1 hlc hg2 hk2 htk2 hcur2 hcur
  repeat (first
    | (refine' wpT_calm (v := _) (by rfl) (fun W hW => ?_) ?_; rotate_left
       · ((try dsimp only at hW); go_simp; first | done | rfl)
       simp only [Act.put, List.setIfInBounds_toArray, List.set_cons_zero, List.set_cons_succ])
    | (refine' wpT_reads (v := _) (by rfl) ?_ ?_; rotate_left
       · (go_simp; first | done | rfl)
       simp only [Act.put, List.setIfInBounds_toArray, List.set_cons_zero, List.set_cons_succ])
    | (refine wpT_skip (by rfl) rfl ?_; simp only [Act.put, List.setIfInBounds_toArray, List.set_cons_zero, List.set_cons_succ])
    | (refine wpT_does (by rfl) (fun K hK => ?_); go_simp; refine hK _ _ ?_ ?_
       · (trivial)
       clear hK K; try simp only [Act.put, List.setIfInBounds_toArray, List.set_cons_zero, List.set_cons_succ])
    | (refine wpT_last (by rfl) (fun K hK => ?_); go_simp; refine hK _ _ ?_; clear hK K)
    | (refine wpT_nil ?_))
  go_wp2
  all_goals
    go_ret
    refine ⟨_, rfl, ?_, rfl, HK2.out.mono fun k _ e => by rw [e]; rfl⟩
    have hle : (l.eraseIdx i).length = n := by rw [List.length_eraseIdx_of_lt (by rw [HN.out]; omega), HN.out]; rfl
    refine ⟨by rw [flat2_length], .inr ⟨g, cap, cs2.toArray, by rw [hle]; first | rfl | (subst h; rfl), Nat.zero_le _, HG2.out, by omega, by unfold maxLen; omega, by rw [HC2.out], ?_⟩⟩
    rw [hle]
    exact HT2.out

theorem at2_fst (l : List (Int × Int)) (i : Nat) (h : i < l.length) : nth (l.map (·.1)) i = (at2 l i).1 := by simp [nth, at2, h]

/-- The look whether a wait is a task's. -/
theorem mfind1_any {w : World} (q : Nat) (x y t : Int) (hq : w.cell? ⟨q, 0, none⟩ = some (.int .i64 t)) :
    Calls Try.prog 56 #[.agg #[.int .i64 x, .int .i64 y], .pointer (some ⟨q, 0, none⟩)] w fun e w' => e = .returned (.bool (x == t)) ∧ Keep (fun _ => False) w w' := by
  have hl := World.block_lt_of_cell? _ _ hq
  have hne := Nat.ne_of_lt hl
  go_enter Try.func56, Try.ntmps56
  go_wp2
  go_ret
  exact ⟨rfl, (Keep.refl _ _).alloc _⟩

set_option maxHeartbeats 1000000 in
theorem indexp_any {w : World} {v : Value} {l : List (Int × Int)} (q : Nat) (t : Int) (h : OwnP w v l) (hq : w.cell? ⟨q, 0, none⟩ = some (.int .i64 t)) :
    Calls Try.prog 55 #[v, .func (.func 56) #[] #[.pointer (some ⟨q, 0, none⟩)]] w fun e w' => e = .returned (.int .i64 (idx (l.map (·.1)) t)) ∧ Keep (fun _ => False) w w' := by
  have H := hid h
  obtain ⟨a, c, hv⟩ := h.form
  have HV := hid hv
  have HQ := hid hq
  rw [hv]
  clear h hv hq
  go_enter Try.func55, Try.ntmps55
  go_wp2
  go_loopw [5, 8] (fun _ i wr => ∃ k : Nat, k ≤ l.length ∧ i = .int .i64 k ∧ (∀ j, j < k → nth (l.map (·.1)) j ≠ t) ∧ Keep (fun _ => False) w wr) (fun _ i _ => l.length - (intOf i).toNat)
  case atStart => exact ⟨0, by omega, rfl, fun j h => absurd h (Nat.not_lt_zero j), Keep.refl _ _⟩
  case round =>
    obtain ⟨k, hk, rfl, hno, hK0⟩ := hrel
    have N := hid hno
    have K0 := hid hK0
    clear hno hK0
    by_cases hlt : k < l.length
    · obtain ⟨g, c', hv', hg, hmx, hc⟩ := H.out.cells (by omega)
      have hav : a = some ⟨g, 0, none⟩ ∧ c = c' := by rw [HV.out] at hv'; cases hv'; exact ⟨rfl, rfl⟩
      obtain ⟨rfl, rfl⟩ := hav
      have k1 := (K0.out.cell (p := ⟨g, k * 2, none⟩) hg (fun h => h)).trans (hc k hlt).1
      have k2 := (K0.out.cell (p := ⟨g, k * 2 + 1, none⟩) hg (fun h => h)).trans (hc k hlt).2
      have hqr := hid ((K0.out.cell (p := ⟨q, 0, none⟩) (World.block_lt_of_cell? _ _ HQ.out) (fun h => h)).trans HQ.out)
      have hlt' : (k : Int) < (l.length : Int) := by omega
      have E := hid (at2_fst l k hlt)
      obtain ⟨x, hx⟩ : ∃ x, (at2 l k).1 = x := ⟨_, rfl⟩
      obtain ⟨y, hy⟩ : ∃ y, (at2 l k).2 = y := ⟨_, rfl⟩
      rw [hx] at k1 E
      rw [hy] at k2
      unfold maxLen at hmx
      clear hc hv' hx hy
      go_wp2_with fail
      refine (mfind1_any q x y t hqr.out).mono ?_
      rintro _ w2 ⟨rfl, K2⟩
      have K3 := hid (K0.out.trans K2)
      clear K2
      by_cases hxt : x = t
      · have hb : (x == t) = true := by simp [hxt]
        have I := hid (idx_some (l := l.map (·.1)) (t := t) (k := k) (by rw [List.length_map]; exact hlt) (by rw [E.out]; exact hxt) N.out)
        rw [hb]
        go_wp2
        go_ret
        exact ⟨by rw [I.out]; rfl, K3.out⟩
      · have hb : (x == t) = false := by simp [hxt]
        rw [hb]
        have hno : ∀ j, j < k + 1 → nth (l.map (·.1)) j ≠ t := fun j hj => by
          by_cases e : j = k
          · subst e; rw [E.out]; exact hxt
          · exact N.out j (by omega)
        have N2 := hid hno
        clear hno hxt
        go_wp2_with fail
        go_roundw
        case rel => exact ⟨k + 1, by omega, by go_num, N2.out, K3.out⟩
        case measure => simp [intOf]; omega
    obtain rfl : k = l.length := by omega
    have hlt' : ¬ ((l.length : Int) < (l.length : Int)) := by omega
    have I := hid (idx_none (l := l.map (·.1)) (t := t) (fun i hi => N.out i (by simpa using hi)))
    go_wp2
    go_ret
    exact ⟨by rw [I.out]; rfl, K0.out⟩

/-- So many in all, so many free, and who waits, for how many. -/
structure SS where
  size : Int
  free : Int
  l : List (Int × Int)
deriving DecidableEq

def Cel.cp (l : List (Int × Int)) : Cel := .li 71 2 l.length (flat2 l)
def scs (S : SS) : List Cel := [.sc (.int .i64 S.size), .sc (.int .i64 S.free), .cp S.l]
def SS.who (S : SS) : List Int := S.l.map (·.1)

section
variable {w0 w w' : World} {G : Nat → Prop} {b : Nat} {S : SS}

theorem MNew.sm (h : MNew 69 w0 w G b (scs S)) : G b ∧ ∃ vs vL, MobAt 69 w b (scs S) vs ∧ (∀ v ∈ vs, ∀ k, v.ownBlock = some k → G k) ∧ vs[2]? = some vL ∧ OwnP w vL S.l ∧
    w.cell? ⟨b, 0, none⟩ = some (.int .i64 S.size) ∧ w.cell? ⟨b, 1, none⟩ = some (.int .i64 S.free) ∧ w.cell? ⟨b, 2, none⟩ = some vL := by
  obtain ⟨⟨hGb, _, vs, hM, hvs⟩, _⟩ := h
  obtain ⟨vL, h2, c2, o2, _⟩ := hM.list 2 (e := 71) (s := 2) (n := S.l.length) (xs := flat2 S.l) rfl
  exact ⟨hGb, vs, vL, hM, hvs, h2, o2, hM.get 0 rfl, hM.get 1 rfl, c2⟩

theorem MNew.storedP {T : Nat} {cs : List Cel} {vs : List Value} (h : MNew T w0 w G b cs) (hM : MobAt T w b cs vs) (hGb : G b) (hvs : ∀ v ∈ vs, ∀ k, v.ownBlock = some k → G k) {i : Nat} {v v' : Value} {l : List (Int × Int)} (hv : vs[i]? = some v)
    (hK : Keep (fun k => v.ownBlock = some k) w w') (o : OwnP w' v' l) (f : ∀ k, v'.ownBlock = some k → v.ownBlock = some k ∨ w.heap.size ≤ k) : StepM T w0 G w (w'.setCell ⟨b, i, none⟩ v') b (cs.set i (.cp l)) := by
  have hne : v'.ownBlock ≠ some b := fun e => by
    obtain ⟨c, _, hf⟩ := hM.mob.at hv
    rcases f b e with h1 | h1
    · exact hf.ne h1
    · have := hM.lt; omega
  have M2 := hM.setList (c' := .cp l) hv hK ⟨o, hne⟩ f
  have hGv : ∀ k, v.ownBlock = some k → G k := hvs v (List.mem_of_getElem? hv)
  refine h.on (AfterM.stored M2 ((hK.mono fun k _ e => hGv k e).setCell (.inl hGb) _) hGb fun u hu k hk => ?_)
  rcases List.mem_or_eq_of_mem_set hu with hu | rfl
  · exact .inl (hvs u hu k hk)
  · exact (f k hk).elim (fun e => .inl (hGv k e)) .inr

set_option maxHeartbeats 400000 in
theorem mfind_any (t : Int) (h : MNew 69 w0 w G b (scs S)) :
    Calls Try.prog 41 #[.pointer (some ⟨b, 0, none⟩), .int .i64 t] w fun e w' => e = .returned (.int .i64 (idx S.who t)) ∧ Keep (fun _ => False) w w' := by
  obtain ⟨-, vs, vL, hM, -, -, oL, -, -, c2⟩ := h.sm
  have hb := hM.lt
  have hne := Nat.ne_of_lt hb
  obtain ⟨a, n, hv⟩ := oL.form
  have HV := hid hv
  rw [hv] at c2 oL
  have K1 : Keep (fun _ => False) w (w.alloc (.cells #[.int .i64 t] 3)) := (Keep.refl _ _).alloc _
  have OL := hid (owns_keep oL K1 (fun _ _ h => h) : OwnP _ _ _)
  have x0 : (w.alloc (.cells #[.int .i64 t] 3)).cell? ⟨w.heap.size, 0, none⟩ = some (.int .i64 t) := by rw [World.cell?_alloc_new]; rfl
  have X0 := hid x0
  have K1 := hid K1
  clear hM h oL hv x0
  go_enter Try.func41, Try.ntmps41
  go_wp2_with fail
  refine (indexp_any w.heap.size t OL.out X0.out).mono ?_
  rintro _ w2 ⟨rfl, K2⟩
  have K3 := hid (K1.out.trans K2)
  clear K2
  go_wp2
  go_ret
  exact ⟨rfl, K3.out⟩

set_option maxHeartbeats 400000 in
theorem mfree_any (h : MNew 69 w0 w G b (scs S)) :
    Calls Try.prog 17 #[.pointer (some ⟨b, 0, none⟩)] w fun e w' => e = .returned (.int .i64 S.free) ∧ w = w' := by
  obtain ⟨-, vs, vL, -, -, -, -, c0, c1, -⟩ := h.sm
  clear h
  go_enter Try.func17, Try.ntmps17
  go_wp2
  go_ret
  exact ⟨rfl, rfl⟩

set_option maxHeartbeats 400000 in
theorem msize_any (h : MNew 69 w0 w G b (scs S)) :
    Calls Try.prog 24 #[.pointer (some ⟨b, 0, none⟩)] w fun e w' => e = .returned (.int .i64 S.size) ∧ w = w' := by
  obtain ⟨-, vs, vL, -, -, -, -, c0, c1, -⟩ := h.sm
  clear h
  go_enter Try.func24, Try.ntmps24
  go_wp2
  go_ret
  exact ⟨rfl, rfl⟩

/-- How many there are. -/
def szOf (n : Int) : Int := if n < 1 then 1 else if n > 16 then 16 else n

set_option maxHeartbeats 400000 in
theorem mnew_any (n : Int) (w : World) :
    Calls Try.prog 13 #[.int .i64 n] w fun e w' => e = .returned (.pointer (some ⟨w.heap.size, 0, none⟩)) ∧ ∃ G, MNew 69 w w' G w.heap.size (scs ⟨szOf n, szOf n, []⟩) := by
  have fin : ∀ k : Int, MobAt 69 (w.alloc (.cells #[.int .i64 k, .int .i64 k, .slice none 0 0] 69)) w.heap.size (scs ⟨k, k, []⟩) [.int .i64 k, .int .i64 k, .slice none 0 0] := by
    intro k
    refine ⟨heap_alloc_new w _, rfl, fun i c v hc hv => ?_, fun i j vi vj k hi hj hne hk => ?_⟩
    · match i, hc, hv with
      | 0, hc, hv => cases hc; cases hv; exact ⟨rfl, rfl⟩
      | 1, hc, hv => cases hc; cases hv; exact ⟨rfl, rfl⟩
      | 2, hc, hv => cases hc; cases hv; exact ⟨World.ownsRow_nil _ _ _ _, by simp [Value.ownBlock]⟩
    · match i, hi with
      | 0, hi => cases hi; cases hk
      | 1, hi => cases hi; cases hk
      | 2, hi => cases hi; cases hk
  have F := hid fin
  clear fin
  have fin2 : ∀ k : Int, ∃ G, MNew 69 w (w.alloc (.cells #[.int .i64 k, .int .i64 k, .slice none 0 0] 69)) G w.heap.size (scs ⟨k, k, []⟩) := fun k => by
    refine ⟨fun k => k = w.heap.size, ⟨rfl, fun k hk => by subst hk; exact (F.out _).lt, _, F.out k, fun v hv k hk => ?_⟩, fun k hk => Nat.le_of_eq hk.symm, (Keep.refl _ _).alloc _⟩
    simp only [List.mem_cons, List.not_mem_nil, or_false] at hv
    rcases hv with rfl | rfl | rfl <;> cases hk
  have F2 := hid fin2
  clear fin2
  by_cases h1 : n < 1
  · have e : Hid (szOf n = 1) := hid (if_pos h1)
    rw [e.out]
    have h2 : n < 16 := by omega
    go_enter Try.func13, Try.ntmps13
    go_wp2
    go_ret
    exact ⟨rfl, F2.out 1⟩
  by_cases h2 : n > 16
  · have e : Hid (szOf n = 16) := hid (by unfold szOf; rw [if_neg h1, if_pos h2])
    rw [e.out]
    go_enter Try.func13, Try.ntmps13
    go_wp2
    go_ret
    exact ⟨rfl, F2.out 16⟩
  have e : Hid (szOf n = n) := hid (by unfold szOf; rw [if_neg h1, if_neg h2])
  rw [e.out]
  rcases (by omega : n < 16 ∧ 1 < n ∨ n = 16 ∨ n = 1) with ⟨h3, h4⟩ | rfl | rfl
  all_goals
    clear h1 h2
    go_enter Try.func13, Try.ntmps13
    go_wp2
    go_ret
    exact ⟨rfl, F2.out _⟩
end
end Go.Proofs.Ytegpoocmhamlpaa
