/- The walk of Deliver: the wake-ups that are there, filled up with empty ones. -/
import Derived.Test.YteobmdkghdjapaaBufB
namespace Go.Proofs.Yteobmdkghdjapaa
open Go.RowKit

/-- The cells of a list of pairs. -/
def flat2 (l : List (Int × Int)) : List Value := l.flatMap fun p => [.int .i64 p.1, .int .i64 p.2]

theorem flat2_nil : flat2 [] = [] := rfl
theorem flat2_cons (p : Int × Int) (l : List (Int × Int)) : flat2 (p :: l) = .int .i64 p.1 :: .int .i64 p.2 :: flat2 l := rfl
theorem flat2_append (a b : List (Int × Int)) : flat2 (a ++ b) = flat2 a ++ flat2 b := by simp [flat2]
theorem flat2_length : ∀ l, (flat2 l).length = l.length * 2
  | [] => rfl
  | p :: l => by rw [flat2_cons]; simp [flat2_length l]; omega

theorem flat2_get : ∀ (l : List (Int × Int)) (i : Nat), i < l.length → (flat2 l)[i * 2]? = some (.int .i64 (at2 l i).1) ∧ (flat2 l)[i * 2 + 1]? = some (.int .i64 (at2 l i).2)
  | [], i, h => absurd h (Nat.not_lt_zero i)
  | p :: l, 0, _ => ⟨rfl, rfl⟩
  | p :: l, i + 1, h => by
    have := flat2_get l i (by simpa using h)
    rw [flat2_cons, show (i + 1) * 2 = i * 2 + 1 + 1 from by omega]
    simpa [at2] using this

theorem flat2_one : ∀ (l : List (Int × Int)) (v : Value), v ∈ flat2 l → v.oneCell' = true := by
  intro l v hv
  simp only [flat2, List.mem_flatMap] at hv
  obtain ⟨p, _, hp⟩ := hv
  simp only [List.mem_cons, List.not_mem_nil, or_false] at hp
  rcases hp with rfl | rfl <;> rfl

/-- A cell of a list, by its place. -/
theorem flat2_at (l : List (Int × Int)) (j : Nat) (v : Value) (h : (flat2 l)[j]? = some v) : ∃ i, i < l.length ∧ ((j = i * 2 ∧ v = .int .i64 (at2 l i).1) ∨ (j = i * 2 + 1 ∧ v = .int .i64 (at2 l i).2)) := by
  have hj : j < l.length * 2 := by
    have := (List.getElem?_eq_some_iff.1 h).1
    rwa [flat2_length] at this
  have hi : j / 2 < l.length := by omega
  refine ⟨j / 2, hi, ?_⟩
  have hg := flat2_get l (j / 2) hi
  rcases Nat.mod_two_eq_zero_or_one j with e | e
  · have ej : j / 2 * 2 = j := by omega
    rw [ej] at hg
    rw [hg.1] at h
    exact .inl ⟨ej.symm, by cases h; rfl⟩
  · have ej : j / 2 * 2 + 1 = j := by omega
    rw [ej] at hg
    rw [hg.2] at h
    exact .inr ⟨ej.symm, by cases h; rfl⟩

def zeros2 (n : Nat) : List (Int × Int) := List.replicate n (0, 0)

theorem flat2_zeros : ∀ n, flat2 (zeros2 n) = List.replicate (n * 2) (.int .i64 0)
  | 0 => rfl
  | n + 1 => by
    rw [zeros2, List.replicate_succ, flat2_cons]
    have := flat2_zeros n
    rw [zeros2] at this
    rw [this, show (n + 1) * 2 = n * 2 + 1 + 1 from by omega, List.replicate_succ, List.replicate_succ]

/-- n zero elements. -/
def zcells (n : Nat) : Array Value := madeCells #[.int .i64 0, .int .i64 0] (n * 2)

theorem zcells_toList (n : Nat) : (zcells n).toList = flat2 (zeros2 n) := by
  rw [flat2_zeros]
  apply List.ext_getElem
  · simp [zcells, madeCells]
  · intro i h1 h2
    simp only [zcells, madeCells, Array.toList_map, Array.toList_range, List.getElem_map, List.getElem_range, List.getElem_replicate]
    rcases Nat.mod_two_eq_zero_or_one i with e | e <;> simp [e]

/-- The slice v holds the wake-ups l, and nothing else begins there. -/
def Wakes (w : World) (v : Value) (l : List (Int × Int)) : Prop := w.ownsRow 0 31 2 v l.length (flat2 l)

theorem Try.info31 : (Try.prog.info? 31).map (fun i => (i.zero, i.size, i.bytes)) = some (some (.agg #[.int .i64 0, .int .i64 0]), 2, 16) := by kernel_rfl

theorem run_copy_whole {P : Program} (w : World) (dT sT ty elem : TypeId) (i : TypeInfo) (size g dLen dCap : Nat) (a : Addr) (sLen sCap : Nat) (cur : Array Value) (t : TypeId) (cs : List Value)
    (hu : P.underlying dT = some (.slice elem)) (hi : P.info? elem = some i) (hsz : i.size = size)
    (hg : w.heap[g]? = some (.cells cur t (0, 0))) (hle : sLen ≤ dLen) (hn : cs.length = sLen * size)
    (hsrc : ∀ j v, cs[j]? = some v → w.cell? (a.add j) = some v) (hfit : cs.length ≤ cur.size) (h1 : ∀ v ∈ cs, v.oneCell' = true) :
    (Builtin.copy_ #[dT, sT] ty #[.slice (some ⟨g, 0, none⟩) dLen dCap, .slice (some a) sLen sCap]).run P w =
      .ok (goInt sLen) (w.setRow g (cs ++ cur.toList.drop cs.length).toArray) := by
  have hl := run_loadCells_list (P := P) w a cs hsrc
  have hst := run_storeCells_at P g 0 t cs 0 cur w hg (by simpa using hfit) h1
  simp only [Nat.zero_add, List.take_zero, List.nil_append] at hst
  have hmin : Nat.min sLen dLen = sLen := Nat.min_eq_left hle
  simp [Builtin.copy_, run_underlying hu, Builtin.lenOf, Builtin.firstCells, sizeOf, typeInfo, hi, hsz, hmin, ← hn, hl, hst]

theorem wp_copy_whole {P : Program} {o : Oper} {a : Act} {w : World} {K : Act → World → Prop} {Q : Exit → Act → World → Prop} (d s : Operand) (dT sT elem : TypeId)
    (ho : o.op = .call { callee := .builtin .copy, args := #[d, s], argTypes := #[dT, sT] }) (i : TypeInfo) (size g dLen dCap : Nat) (ad : Addr) (sLen sCap : Nat) (cur : Array Value) (t : TypeId) (cs : List Value)
    (hd : a.eval d = .slice (some ⟨g, 0, none⟩) dLen dCap) (hs : a.eval s = .slice (some ad) sLen sCap)
    (hu : P.underlying dT = some (.slice elem)) (hi : P.info? elem = some i) (hsz : i.size = size)
    (hg : w.heap[g]? = some (.cells cur t (0, 0))) (hle : sLen ≤ dLen) (hn : cs.length = sLen * size)
    (hsrc : ∀ j v, cs[j]? = some v → w.cell? (ad.add j) = some v) (hfit : cs.length ≤ cur.size) (h1 : ∀ v ∈ cs, v.oneCell' = true)
    (hK : K (a.put o.dst (goInt sLen)) (w.setRow g (cs ++ cur.toList.drop cs.length).toArray)) : o.wp P a w K Q := by
  have hrun := run_copy_whole (P := P) w dT sT o.type elem i size g dLen dCap ad sLen sCap cur t cs hu hi hsz hg hle hn hsrc hfit h1
  unfold Oper.wp
  simp [execOp, ho, resolve, invoke, builtin, hd, hs, hrun, Result.andThen]
  exact hK

/-- The buffer's own block, emptied. -/
theorem emptied {w : World} {b : Nat} {l : List (Int × Int)} {m : Nat} (h : IsBuf w b l m) (w' : World) (hc : ∀ i, i < 16 → w'.cell? ⟨b, i, none⟩ = some (.int .i64 0)) (hs : w'.cell? ⟨b, 16, none⟩ = some (.int .i64 0)) (hm : w'.cell? ⟨b, 17, none⟩ = some (.int .i64 m)) (hr : ∃ c, w'.heap[b]? = some (.cells c 57 (0, 0))) : IsBuf w' b [] m :=
  ⟨Nat.zero_le _, h.le8, hr, fun i hi => by rw [hc _ (by omega)]; simp [at2], fun i hi => by rw [hc _ (by omega)]; simp [at2], hs, hm⟩

def zeroed (w : World) (b : Nat) : Nat → World
  | 0 => w
  | n + 1 => (zeroed w b n).setCell ⟨b, n, none⟩ (.int .i64 0)

theorem zeroed_row {w : World} {b : Nat} {c : Array Value} (h : w.heap[b]? = some (.cells c 57 (0, 0))) : ∀ n, ∃ c', (zeroed w b n).heap[b]? = some (.cells c' 57 (0, 0))
  | 0 => ⟨c, h⟩
  | n + 1 => by
    obtain ⟨c', h'⟩ := zeroed_row h n
    exact ⟨c'.setIfInBounds n (.int .i64 0), by simp [zeroed, World.setCell, Array.getElem?_modify, h']⟩

theorem zeroed_cell {w : World} {b : Nat} (j : Nat) : ∀ n, (zeroed w b n).cell? ⟨b, j, none⟩ = if j < n then (w.cell? ⟨b, j, none⟩).map (fun _ => .int .i64 0) else w.cell? ⟨b, j, none⟩
  | 0 => by simp [zeroed]
  | n + 1 => by
    have ih := zeroed_cell (w := w) (b := b) j n
    rw [zeroed]
    by_cases hj : j = n
    · subst hj
      rw [if_neg (Nat.lt_irrefl _)] at ih
      rw [if_pos (Nat.lt_succ_self _)]
      cases hc : w.cell? ⟨b, j, none⟩ with
      | none =>
        rw [hc] at ih
        show (World.setCell _ _ _).cell? _ = none
        unfold World.cell? at ih ⊢
        simp only [World.setCell, Array.getElem?_modify, if_true]
        cases hh : (zeroed w b j).heap[b]? with
        | none => simp
        | some o => cases o <;> simp_all
      | some v =>
        rw [hc] at ih
        rw [World.cell?_setCell_same _ _ _ ih]; rfl
    · rw [World.cell?_setCell_other _ _ _ _ (by simp <;> omega), ih]
      by_cases h1 : j < n
      · rw [if_pos h1, if_pos (by omega)]
      · rw [if_neg h1, if_neg (by omega)]

theorem zeroed_keep {w0 w : World} {b : Nat} (h : Keep (fun k => k = b) w0 w) : ∀ n, Keep (fun k => k = b) w0 (zeroed w b n)
  | 0 => h
  | n + 1 => (zeroed_keep h n).setOwn _

theorem zeroed_block {w : World} {b k : Nat} (h : k ≠ b) : ∀ n, (zeroed w b n).heap[k]? = w.heap[k]?
  | 0 => rfl
  | n + 1 => by rw [zeroed, Below.heap_setCell _ _ _ _ h]; exact zeroed_block h n

set_option maxHeartbeats 400000 in
theorem deliver_any {b : Nat} {l : List (Int × Int)} {m : Nat} {w : World} (h : IsBuf w b l m) :
    Calls Try.prog 18 #[.pointer (some ⟨b, 0, none⟩)] w fun en w' => ∃ v, en = .returned v ∧ Wakes w' v (l ++ zeros2 (m - l.length)) ∧ (∀ k, v.ownBlock = some k → w.heap.size ≤ k) ∧ IsBuf w' b [] m ∧ Keep (fun k => k = b) w w' := by
  have hb : b < w.heap.size := h.lt
  have h1 := h.size
  have h2 := h.most
  have h8 := h.le8
  have hle := h.le
  have hl0 : (0 : Int) ≤ (l.length : Int) := by omega
  have hl8 : (l.length : Int) ≤ 8 := by omega
  have hm8 : (m : Int) ≤ 8 := by omega
  obtain ⟨i0, hi, hz0, hz1, hz2⟩ := info_parts Try.info31
  have hmk : ∀ w : World, (Instr.makeSlice 22 (.int .i64 m) (.int .i64 m)).run Try.prog w = .ok (.slice (some ⟨w.heap.size, 0, none⟩) m m) (w.alloc (.cells (zcells m) 31)) := fun w => by
    have := run_make (P := Try.prog) w 22 31 i0 (.agg #[.int .i64 0, .int .i64 0]) Try.underlying22 hi hz0 .i64 .i64 m m (by omega) (by omega) (by rw [hz2]; omega) (by omega)
    rw [hz1] at this
    exact this
  have H := hid h
  have HL := hid hle
  have HI := hid hi
  have HZ := hid hz1
  clear h hi hz0 hz1 hz2 hle
  go_enter Try.func18, Try.ntmps18
  go_wp2
  refine wp_region_text [0,0,0,0,0,0,0,1,0,2] (fun _ => True) (by kernel_rfl) (by kernel_rfl) trivial ?_
  repeat (first
    | (refine' wpT_calm (v := _) (by rfl) (fun W hW => ?_) ?_; rotate_left
       · ((try dsimp only at hW); go_simp; first | done | rfl)
       simp only [Act.put, List.setIfInBounds_toArray, List.set_cons_zero, List.set_cons_succ])
    | (refine' wpT_reads (v := _) (by rfl) ?_ ?_; rotate_left
       · (go_simp; first | done | rfl)
       simp only [Act.put, List.setIfInBounds_toArray, List.set_cons_zero, List.set_cons_succ])
    | (refine wpT_skip (by rfl) rfl ?_; simp only [Act.put, List.setIfInBounds_toArray, List.set_cons_zero, List.set_cons_succ])
    | (refine wpT_does (by rfl) (fun K hK => ?_); go_simp; refine hK _ _ ?_ ?_
       · (trivial)
       clear hK K; try simp only [Act.put, List.setIfInBounds_toArray, List.set_cons_zero, List.set_cons_succ])
    | (refine wpT_last (by rfl) (fun K hK => ?_); go_simp; refine hK _ _ ?_; clear hK K)
    | (refine wpT_nil ?_))
  have hw0 : ∀ F, Keep F w (w.alloc (.cells (zcells m) 31)).drew := fun F => ((Keep.refl F _).alloc _).drew
  have H0 := H.out.keep (hw0 (fun _ => False)) (fun h => h)
  have hcell : ∀ j v, (flat2 l)[j]? = some v → (w.alloc (.cells (zcells m) 31)).drew.cell? ((⟨b, 0, none⟩ : Addr).add j) = some v := fun j v hv => by
    have hadd : (⟨b, 0, none⟩ : Addr).add j = ⟨b, j, none⟩ := by unfold Addr.add; split <;> simp_all
    rw [hadd]
    obtain ⟨i, hi, ⟨rfl, rfl⟩ | ⟨rfl, rfl⟩⟩ := flat2_at l j v hv
    · exact H0.task i (by have := HL.out; omega)
    · exact H0.err i (by have := HL.out; omega)
  have hlen := flat2_length l
  refine wpT_does (by rfl) (fun K hK => ?_)
  refine wp_copy_whole (.tmp 11) (.tmp 19) 22 22 31 rfl i0 2 w.heap.size m m ⟨b, 0, none⟩ l.length 8 (zcells m) 31 (flat2 l) rfl rfl Try.underlying22 HI.out HZ.out (heap_alloc_new w _) HL.out hlen hcell ?_ (flat2_one l) ?_
  · have := HL.out
    rw [hlen]; simp [zcells, madeCells]; omega
  refine hK _ _ trivial ?_
  clear hK K
  generalize hW : ((w.alloc (.cells (zcells m) 31)).drew.setRow w.heap.size (flat2 l ++ (zcells m).toList.drop (flat2 l).length).toArray) = w1
  have hrow : w1.heap[w.heap.size]? = some (.cells (flat2 l ++ (zcells m).toList.drop (flat2 l).length).toArray 31 (0, 0)) := by
    rw [← hW]; exact setRow_heap _ _ _ _ _ _ (heap_alloc_new w _)
  have hk1 : ∀ F, Keep F w w1 := fun F => ⟨by rw [← hW]; rfl, by rw [← hW]; rfl, by rw [← hW]; rfl, by rw [← hW]; simp [World.setRow], fun k hk _ => by
    rw [← hW, setRow_other _ _ _ _ (by omega)]; exact (hw0 F).block k hk (by assumption)⟩
  have H1 := H.out.keep (hk1 (fun _ => False)) (fun h => h)
  clear hW H0 hcell hw0 h1 h2 H
  have c0 : w1.cell? ⟨b, 0, none⟩ = some (.int .i64 (at2 l 0).1) := H1.task 0 (by omega)
  have c1 : w1.cell? ⟨b, 1, none⟩ = some (.int .i64 (at2 l 0).2) := H1.err 0 (by omega)
  have c2 : w1.cell? ⟨b, 2, none⟩ = some (.int .i64 (at2 l 1).1) := H1.task 1 (by omega)
  have c3 : w1.cell? ⟨b, 3, none⟩ = some (.int .i64 (at2 l 1).2) := H1.err 1 (by omega)
  have c4 : w1.cell? ⟨b, 4, none⟩ = some (.int .i64 (at2 l 2).1) := H1.task 2 (by omega)
  have c5 : w1.cell? ⟨b, 5, none⟩ = some (.int .i64 (at2 l 2).2) := H1.err 2 (by omega)
  have c6 : w1.cell? ⟨b, 6, none⟩ = some (.int .i64 (at2 l 3).1) := H1.task 3 (by omega)
  have c7 : w1.cell? ⟨b, 7, none⟩ = some (.int .i64 (at2 l 3).2) := H1.err 3 (by omega)
  have c8 : w1.cell? ⟨b, 8, none⟩ = some (.int .i64 (at2 l 4).1) := H1.task 4 (by omega)
  have c9 : w1.cell? ⟨b, 9, none⟩ = some (.int .i64 (at2 l 4).2) := H1.err 4 (by omega)
  have c10 : w1.cell? ⟨b, 10, none⟩ = some (.int .i64 (at2 l 5).1) := H1.task 5 (by omega)
  have c11 : w1.cell? ⟨b, 11, none⟩ = some (.int .i64 (at2 l 5).2) := H1.err 5 (by omega)
  have c12 : w1.cell? ⟨b, 12, none⟩ = some (.int .i64 (at2 l 6).1) := H1.task 6 (by omega)
  have c13 : w1.cell? ⟨b, 13, none⟩ = some (.int .i64 (at2 l 6).2) := H1.err 6 (by omega)
  have c14 : w1.cell? ⟨b, 14, none⟩ = some (.int .i64 (at2 l 7).1) := H1.task 7 (by omega)
  have c15 : w1.cell? ⟨b, 15, none⟩ = some (.int .i64 (at2 l 7).2) := H1.err 7 (by omega)
  have c16 := H1.size
  have c17 := H1.most
  have hb1 := H1.lt
  have z0 := H1.fro 0
  have z1 := H1.fro 1
  have z2 := H1.fro 2
  have z3 := H1.fro 3
  have z4 := H1.fro 4
  have z5 := H1.fro 5
  have z6 := H1.fro 6
  have z7 := H1.fro 7
  have z8 := H1.fro 8
  have z9 := H1.fro 9
  have z10 := H1.fro 10
  have z11 := H1.fro 11
  have z12 := H1.fro 12
  have z13 := H1.fro 13
  have z14 := H1.fro 14
  have z15 := H1.fro 15
  have z16 := H1.fro 16
  have HH := hid H1
  have HR := hid hrow
  clear H1 hrow hlen
  refine wpT_nil ?_
  go_wp2
  go_ret
  refine ⟨_, rfl, ?_⟩
  show Wakes (zeroed w1 b 17) (.slice (some ⟨w.heap.size, 0, none⟩) m m) _ ∧ _ ∧ IsBuf (zeroed w1 b 17) b [] m ∧ Keep _ w (zeroed w1 b 17)
  have hl := HL.out
  refine ⟨⟨flat2_length _, .inr ⟨w.heap.size, m, (flat2 l ++ (zcells m).toList.drop (flat2 l).length).toArray, ?_, Nat.zero_le _, ?_, ?_, ?_, ?_, ?_⟩⟩, ?_, ?_, zeroed_keep (hk1 _) 17⟩
  · simp [zeros2]; omega
  · rw [zeroed_block (by omega)]; exact HR.out
  · simp [zeros2]; omega
  · simp only [maxLen]; omega
  · simp [flat2_length, zcells, madeCells]; omega
  · have e : (l ++ zeros2 (m - l.length)).length = m := by simp [zeros2]; omega
    have e2 : (zcells m).toList.drop (flat2 l).length = flat2 (zeros2 (m - l.length)) := by
      rw [zcells_toList, flat2_zeros, flat2_zeros, List.drop_replicate, flat2_length]; congr 1; omega
    rw [e, e2, ← flat2_append]
    refine List.take_of_length_le ?_
    rw [flat2_length, e]; exact Nat.le_refl _
  · intro k hk
    simp [Value.ownBlock] at hk
    omega
  · obtain ⟨c, hc⟩ := HH.out.row
    refine emptied HH.out _ (fun i hi => ?_) ?_ ?_ (zeroed_row hc 17)
    · rw [zeroed_cell, if_pos (by omega)]
      have h8 := h8
      rcases Nat.mod_two_eq_zero_or_one i with e | e
      · have := HH.out.task (i / 2) (by omega)
        rw [show i / 2 * 2 = i by omega] at this
        rw [this]; rfl
      · have := HH.out.err (i / 2) (by omega)
        rw [show i / 2 * 2 + 1 = i by omega] at this
        rw [this]; rfl
    · rw [zeroed_cell, if_pos (by omega), HH.out.size]; rfl
    · rw [zeroed_cell, if_neg (by omega)]; exact HH.out.most

set_option maxHeartbeats 400000 in
theorem deliver_nil (w : World) : Calls Try.prog 18 #[.pointer none] w fun en w' => en = .returned (.slice none 0 0) ∧ w = w' := by
  go_enter Try.func18, Try.ntmps18
  go_wp2
  go_ret
  exact ⟨rfl, rfl⟩

set_option maxHeartbeats 400000 in
theorem put_nil (t e : Int) (w : World) :
    Calls Try.prog 14 #[.pointer none, .agg #[.int .i64 t, .int .i64 e]] w fun en w' => en = .returned (.bool false) ∧ Keep (fun _ => False) w w' := by
  go_enter Try.func14, Try.ntmps14
  go_wp2
  refine wp_region_text putRegion (fun _ => True) (by kernel_rfl) (by kernel_rfl) trivial ?_
  unfold putRegion
  repeat (first
    | (refine' wpT_calm (v := _) (by rfl) (fun W hW => ?_) ?_; rotate_left
       · ((try dsimp only at hW); go_simp; first | done | rfl)
       simp only [Act.put, List.setIfInBounds_toArray, List.set_cons_zero, List.set_cons_succ])
    | (refine' wpT_reads (v := _) (by rfl) ?_ ?_; rotate_left
       · (go_simp; first | done | rfl)
       simp only [Act.put, List.setIfInBounds_toArray, List.set_cons_zero, List.set_cons_succ])
    | (refine wpT_skip (by rfl) rfl ?_; simp only [Act.put, List.setIfInBounds_toArray, List.set_cons_zero, List.set_cons_succ])
    | (refine wpT_does (by rfl) (fun K hK => ?_); go_simp; refine hK _ _ ?_ ?_
       · (trivial)
       clear hK K; try simp only [Act.put, List.setIfInBounds_toArray, List.set_cons_zero, List.set_cons_succ])
    | (refine wpT_last (by rfl) (fun K hK => ?_); go_simp; refine hK _ _ ?_; clear hK K)
    | (refine wpT_nil ?_))
  go_wp2
  go_ret
  exact ⟨rfl, ((Keep.refl _ _).alloc _).drew⟩

end Go.Proofs.Yteobmdkghdjapaa
