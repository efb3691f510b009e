/- Lists of records: slices.Delete, Clone, Clip. Lists of records: append, read, slices.Clone, slices.Clip. The log: audit.New. (*Log).Add. (*Log).Add (printed by gen_audj.py). -/
import Derived.Test.YtpijnpapmdnceaaGaf

namespace Go.Proofs.Ytpijnpapmdnceaa
open Go Go.RowKit

theorem fm_len {α β : Type} (f : α → List β) (k : Nat) (hf : ∀ a, (f a).length = k) : ∀ l : List α, (l.flatMap f).length = l.length * k
  | [] => by simp
  | p :: l => by rw [List.flatMap_cons, List.length_append, hf, fm_len f k hf l, List.length_cons, Nat.succ_mul]; omega
theorem fm_take {α β : Type} (f : α → List β) (k : Nat) (hf : ∀ a, (f a).length = k) : ∀ (l : List α) (i : Nat), (l.take i).flatMap f = (l.flatMap f).take (i * k)
  | [], i => by simp
  | p :: l, 0 => by simp
  | p :: l, i + 1 => by
    rw [List.take_succ_cons, List.flatMap_cons, List.flatMap_cons, fm_take f k hf l i, show (i + 1) * k = (f p).length + i * k from by rw [hf, Nat.succ_mul]; omega, List.take_length_add_append]
theorem fm_drop {α β : Type} (f : α → List β) (k : Nat) (hf : ∀ a, (f a).length = k) : ∀ (l : List α) (i : Nat), (l.drop i).flatMap f = (l.flatMap f).drop (i * k)
  | [], i => by simp
  | p :: l, 0 => by simp
  | p :: l, i + 1 => by
    rw [List.drop_succ_cons, List.flatMap_cons, fm_drop f k hf l i, show (i + 1) * k = (f p).length + i * k from by rw [hf, Nat.succ_mul]; omega, List.drop_length_add_append]
theorem fm_get {α β : Type} (f : α → List β) (k : Nat) (hf : ∀ a, (f a).length = k) : ∀ (l : List α) (i j : Nat) (hi : i < l.length), j < k → (l.flatMap f)[i * k + j]? = (f (l[i]))[j]?
  | [], i, j, h, _ => absurd h (Nat.not_lt_zero i)
  | p :: l, 0, j, _, hj => by
    rw [List.flatMap_cons, Nat.zero_mul, Nat.zero_add, List.getElem?_append_left (by rw [hf]; exact hj)]
    rfl
  | p :: l, i + 1, j, h, hj => by
    have := fm_get f k hf l i j (by simpa using h) hj
    rw [List.flatMap_cons, List.getElem?_append_right (by rw [hf, Nat.succ_mul]; omega), show (i + 1) * k + j - (f p).length = i * k + j from by rw [hf, Nat.succ_mul]; omega, this]
    rfl
/-- The cells of a list of records. -/
def flatR (l : List Rc) : List Value := l.flatMap Rc.cells
theorem cells_len (r : Rc) : r.cells.length = 10 := rfl
theorem flatR_append (a b : List Rc) : flatR (a ++ b) = flatR a ++ flatR b := by simp [flatR]
theorem flatR_length (l : List Rc) : (flatR l).length = l.length * 10 := fm_len _ 10 cells_len l
theorem flatR_take (l : List Rc) (i : Nat) : flatR (l.take i) = (flatR l).take (i * 10) := fm_take _ 10 cells_len l i
theorem flatR_drop (l : List Rc) (i : Nat) : flatR (l.drop i) = (flatR l).drop (i * 10) := fm_drop _ 10 cells_len l i
theorem flatR_get (l : List Rc) (i j : Nat) (hi : i < l.length) (hj : j < 10) : (flatR l)[i * 10 + j]? = (l[i]).cells[j]? := fm_get _ 10 cells_len l i j hi hj
theorem flatR_one (l : List Rc) (v : Value) (hv : v ∈ flatR l) : v.oneCell' = true := by
  simp only [flatR, List.mem_flatMap, Rc.cells, List.mem_map] at hv
  obtain ⟨p, _, x, _, rfl⟩ := hv
  rfl
/-- v is the call's own list l. -/
def OwnR (w : World) (v : Value) (l : List Rc) : Prop := w.ownsRow 0 42 10 v l.length (flatR l)
theorem OwnR.form {w : World} {v : Value} {l : List Rc} (h : OwnR w v l) : ∃ a c, v = .slice a l.length c := owns_form h
theorem OwnR.nil (w : World) : OwnR w (.slice none 0 0) [] := World.ownsRow_nil _ _ _ _
theorem OwnR.keep {F : Nat → Prop} {w w' : World} {v : Value} {l : List Rc} (h : OwnR w v l) (hK : Keep F w w') (hF : ∀ k, v.ownBlock = some k → ¬ F k) : OwnR w' v l := owns_keep h hK hF
theorem Try.infoR : (Try.prog.info? 42).map (fun i => (i.zero, i.size, i.bytes)) = some (some (.agg #[.int .i64 0, .int .i64 0, .int .i64 0, .int .i64 0, .int .i64 0, .int .i64 0, .int .i64 0, .int .i64 0, .int .i64 0, .int .i64 0]), 10, 80) := by kernel_rfl

theorem wp_append_in {P : Program} (w : World) {o : Oper} {a : Act} {K : Act → World → Prop} {Q : Exit → Act → World → Prop} (s x : Operand) (t : TypeId)
    (ho : o.op = .call { callee := .builtin .append, args := #[s, x], argTypes := #[t, t] })
    (e : TypeId) (i : TypeInfo) (ht : P.underlying t = some (.slice e)) (hi : P.info? e = some i) (size : Nat) (hsz : i.size = size)
    (g sLen sCap : Nat) (cur : Array Value) (hg : w.heap[g]? = some (.cells cur e (0, 0))) (hs : a.eval s = .slice (some ⟨g, 0, none⟩) sLen sCap)
    (ad : Addr) (m c : Nat) (news : List Value) (hx : a.eval x = .slice (some ad) m c) (hl : news.length = m * size) (hnews : ∀ j u, news[j]? = some u → w.cell? (ad.add j) = some u) (h1 : ∀ u ∈ news, u.oneCell' = true)
    (hroom : sLen + m ≤ sCap) (hfit : sLen * size + news.length ≤ cur.size)
    (h : K (a.put o.dst (.slice (some ⟨g, 0, none⟩) (sLen + m) sCap)) (w.setRow g (cur.toList.take (sLen * size) ++ news ++ cur.toList.drop (sLen * size + news.length)).toArray)) : o.wp P a w K Q := by
  subst hsz
  have hr := run_append_room (P := P) w t o.type e i ht hi g sLen sCap cur hg ad m c news hl hnews h1 hroom hfit
  unfold Oper.wp execOp
  simp only [ho, resolve, invoke, builtin, Sem.run_bind, Sem.run_pure, Result.andThen_ok, List.map_toArray, List.map_cons, List.map_nil, hs, hx, hr]
  exact h

theorem run_clear_one {P : Program} (w : World) (t ty e : TypeId) (i : TypeInfo) (ht : P.underlying t = some (.slice e)) (hi : P.info? e = some i) (z : Value) (hz : i.zero = some z)
    (g off c : Nat) (cur : Array Value) (hg : w.heap[g]? = some (.cells cur e (0, 0))) (hfit : off + (Builtin.zeroCells z.cells 1).toList.length ≤ cur.size) (h1 : ∀ u ∈ (Builtin.zeroCells z.cells 1).toList, u.oneCell' = true) :
    (Builtin.clear_ #[t] ty #[.slice (some ⟨g, off, none⟩) 1 c]).run P w = .ok (.tuple #[]) (w.setRow g (cur.toList.take off ++ (Builtin.zeroCells z.cells 1).toList ++ cur.toList.drop (off + (Builtin.zeroCells z.cells 1).toList.length)).toArray) := by
  have hst := run_storeCells_at P g off e (Builtin.zeroCells z.cells 1).toList 0 cur w hg (by simpa using hfit) h1
  simp only [Nat.add_zero] at hst
  simp [Builtin.clear_, run_underlying ht, zeroValue, typeInfo, hi, hz, hst]

theorem setRow_keep (w : World) (g : Nat) (cs : Array Value) : Keep (fun k => k = g) w (w.setRow g cs) :=
  ⟨rfl, rfl, rfl, by simp [World.setRow], fun k _ h => setRow_other w g k cs h⟩

set_option maxRecDepth 10000 in
set_option maxHeartbeats 1000000 in
theorem deleter_any {w : World} {v : Value} {l : List Rc} (i : Nat) (x y : Int) (hx : x = (i : Int)) (hy : y = (i : Int) + 1) (hi : i < l.length) (h : OwnR w v l) :
    Calls Try.prog 39 #[v, .int .i64 x, .int .i64 y] w fun e w' => ∃ v', e = .returned v' ∧ OwnR w' v' (l.eraseIdx i) ∧ v'.ownBlock = v.ownBlock ∧ Keep (fun k => v.ownBlock = some k) w w' := by
  subst hx hy
  obtain ⟨hlen, ⟨rfl, h0⟩ | ⟨g, cap, cur, rfl, _, hg, hnc, hcm, hcs, htk⟩⟩ := h
  · rw [h0] at hi; exact absurd hi (Nat.not_lt_zero _)
  obtain ⟨i0, hi0, hz0, hz1, hz2⟩ := info_parts Try.infoR
  have hcm' : cap ≤ 9223372036854775807 := by unfold maxLen at hcm; omega
  obtain ⟨n, hn⟩ : ∃ n, l.length = n + 1 := ⟨l.length - 1, by omega⟩
  rw [hn] at hi hnc htk hlen ⊢
  have e1 : ((i : Int) == (i : Int) + 1) = false := by simp; omega
  have b1 : (i : Int) + 1 ≤ (n : Int) + 1 := by omega
  have b2 : i + 1 ≤ n + 1 := by omega
  have b3 : (n : Int) + 1 ≤ (cap : Int) := by omega
  have b4 : (i : Int) ≤ (cap : Int) := by omega
  have b5 : (0 : Int) ≤ (i : Int) := by omega
  have b6 : (n : Int) ≤ (cap : Int) := by omega
  have b7 : (0 : Int) ≤ (n : Int) := by omega
  have b8 : ¬ cap = n := by omega
  have i1 : i0.size = 10 := hz1
  have HI := hid hi0
  have HZ := hid hz0
  have H1 := hid i1
  have HC := hid hcs
  have HT := hid htk
  have HG := hid hg
  have HN := hid hn
  have hs := i1
  clear hz0 hz1 hz2 hcs htk hg hlen hcm hn
  go_enter Try.func39, Try.ntmps39
  go_wp2_with fail
  refine wp_region_text [0,0,0,0,0,0,2,0] (fun _ => True) (by kernel_rfl) (by kernel_rfl) trivial ?_
  repeat (first
    | (refine' wpT_calm (v := _) (by rfl) (fun W hW => ?_) ?_; rotate_left
       · ((try dsimp only at hW); go_simp; first | done | rfl)
       simp only [Act.put, List.setIfInBounds_toArray, List.set_cons_zero, List.set_cons_succ])
    | (refine' wpT_reads (v := _) (by rfl) ?_ ?_; rotate_left
       · (go_simp; first | done | rfl)
       simp only [Act.put, List.setIfInBounds_toArray, List.set_cons_zero, List.set_cons_succ])
    | (refine wpT_skip (by rfl) rfl ?_; simp only [Act.put, List.setIfInBounds_toArray, List.set_cons_zero, List.set_cons_succ])
    | (refine wpT_does (by rfl) (fun K hK => ?_); go_simp; refine hK _ _ ?_ ?_
       · (trivial)
       clear hK K; try simp only [Act.put, List.setIfInBounds_toArray, List.set_cons_zero, List.set_cons_succ])
    | (refine wpT_last (by rfl) (fun K hK => ?_); go_simp; refine hK _ _ ?_; clear hK K)
    | (refine wpT_nil ?_))
  refine wpT_does (by rfl) (fun K hK => ?_)
  have hxs : flatR l = cur.toList.take ((n + 1) * 10) := HT.out.symm
  have hnl : (flatR l).length = (n + 1) * 10 := by rw [flatR_length, HN.out]
  have hread : ∀ j u, (cur.toList.take ((n + 1) * 10))[j]? = some u → w.cell? ⟨g, j, none⟩ = some u := fun j u hu => by
    rw [cell_of_row w g j cur 42 (0, 0) HG.out]
    rw [List.getElem?_take] at hu
    split at hu
    · simpa using hu
    · cases hu
  have hcur : cur.toList.length = cap * 10 := by simpa using HC.out
  refine wp_append_in _ (.tmp 22) (.tmp 25) 32 rfl 42 i0 Try.underlying32 HI.out 10 H1.out g i cap cur HG.out rfl (if cap = i + 1 then ⟨g, 0, none⟩ else ⟨g, (i + 1) * 10, none⟩) (n - i) (cap - (i + 1)) ((flatR l).drop ((i + 1) * 10)) ?_ (by rw [List.length_drop, hnl]; omega) ?_ (fun u hu => flatR_one l u (List.mem_of_mem_drop hu)) (by omega) (by rw [List.length_drop, hnl, HC.out]; omega) ?_
  · show Value.slice (if cap = i + 1 then some { block := g, off := 0 } else some { block := g, off := (i + 1) * 10 }) (n - i) (cap - (i + 1)) = _
    split <;> rfl
  · intro j u hu
    rw [List.getElem?_drop] at hu
    have hj : (i + 1) * 10 + j < (n + 1) * 10 := by
      have := (List.getElem?_eq_some_iff.1 hu).1
      rwa [hnl] at this
    rw [if_neg (by omega)]
    have hadd : (⟨g, (i + 1) * 10, none⟩ : Addr).add j = ⟨g, (i + 1) * 10 + j, none⟩ := by unfold Addr.add; split <;> simp_all
    rw [hadd]
    rw [hxs] at hu
    exact hread _ _ hu
  refine hK _ _ trivial ?_
  clear hK K
  rw [show i + (n - i) = n by omega]
  have hcur1 : (cur.toList.take (i * 10) ++ (flatR l).drop ((i + 1) * 10) ++ cur.toList.drop (i * 10 + ((flatR l).drop ((i + 1) * 10)).length)).toArray.size = cap * 10 := by
    simp only [List.size_toArray, List.length_append, List.length_take, List.length_drop, hnl, hcur]; omega
  have htk1 : (cur.toList.take (i * 10) ++ (flatR l).drop ((i + 1) * 10) ++ cur.toList.drop (i * 10 + ((flatR l).drop ((i + 1) * 10)).length)).take (n * 10) = flatR (l.eraseIdx i) := by
    rw [List.take_append_of_le_length (by simp only [List.length_append, List.length_take, List.length_drop, hnl, hcur]; omega), List.take_of_length_le (by simp only [List.length_append, List.length_take, List.length_drop, hnl, hcur]; omega)]
    have e2 : cur.toList.take (i * 10) = (flatR l).take (i * 10) := by rw [hxs, List.take_take, Nat.min_eq_left (by omega)]
    rw [e2, List.eraseIdx_eq_take_drop_succ, flatR_append, flatR_take, flatR_drop]
  generalize (cur.toList.take (i * 10) ++ (flatR l).drop ((i + 1) * 10) ++ cur.toList.drop (i * 10 + ((flatR l).drop ((i + 1) * 10)).length)) = cs1 at hcur1 htk1 ⊢
  have hg1 := setRow_heap w.drew g cur cs1.toArray 42 (0, 0) HG.out
  have hk1 : Keep (fun k => k = g) w (w.drew.setRow g cs1.toArray) := ((Keep.refl _ w).drew).trans (setRow_keep _ _ _)
  generalize w.drew.setRow g cs1.toArray = w1 at hg1 hk1 ⊢
  have hz1 : (Builtin.zeroCells (Value.agg #[.int .i64 0, .int .i64 0, .int .i64 0, .int .i64 0, .int .i64 0, .int .i64 0, .int .i64 0, .int .i64 0, .int .i64 0, .int .i64 0]).cells 1).toList = [Value.int .i64 0, Value.int .i64 0, Value.int .i64 0, Value.int .i64 0, Value.int .i64 0, Value.int .i64 0, Value.int .i64 0, Value.int .i64 0, Value.int .i64 0, Value.int .i64 0] := by simp [Builtin.zeroCells, Value.cells, List.range, List.range.loop]
  have hcl : ∀ ty c, (Builtin.clear_ #[32] ty #[.slice (some ⟨g, n * 10, none⟩) 1 c]).run Try.prog w1 = .ok (.tuple #[]) (w1.setRow g (cs1.take (n * 10) ++ [Value.int .i64 0, Value.int .i64 0, Value.int .i64 0, Value.int .i64 0, Value.int .i64 0, Value.int .i64 0, Value.int .i64 0, Value.int .i64 0, Value.int .i64 0, Value.int .i64 0] ++ cs1.drop (n * 10 + 10)).toArray) := fun ty c => by
    have := run_clear_one (P := Try.prog) w1 32 ty 42 i0 Try.underlying32 HI.out (.agg #[.int .i64 0, .int .i64 0, .int .i64 0, .int .i64 0, .int .i64 0, .int .i64 0, .int .i64 0, .int .i64 0, .int .i64 0, .int .i64 0]) HZ.out g (n * 10) c cs1.toArray hg1 (by rw [hz1, hcur1]; simp; omega) (by rw [hz1]; simp [Value.oneCell'])
    rw [hz1] at this
    exact this
  have hg2 := setRow_heap w1 g cs1.toArray (cs1.take (n * 10) ++ [Value.int .i64 0, Value.int .i64 0, Value.int .i64 0, Value.int .i64 0, Value.int .i64 0, Value.int .i64 0, Value.int .i64 0, Value.int .i64 0, Value.int .i64 0, Value.int .i64 0] ++ cs1.drop (n * 10 + 10)).toArray 42 (0, 0) hg1
  have hk2 : Keep (fun k => k = g) w (w1.setRow g (cs1.take (n * 10) ++ [Value.int .i64 0, Value.int .i64 0, Value.int .i64 0, Value.int .i64 0, Value.int .i64 0, Value.int .i64 0, Value.int .i64 0, Value.int .i64 0, Value.int .i64 0, Value.int .i64 0] ++ cs1.drop (n * 10 + 10)).toArray) := hk1.trans (setRow_keep _ _ _)
  have hlc : cs1.length = cap * 10 := by simpa using hcur1
  have htk2 : (cs1.take (n * 10) ++ [Value.int .i64 0, Value.int .i64 0, Value.int .i64 0, Value.int .i64 0, Value.int .i64 0, Value.int .i64 0, Value.int .i64 0, Value.int .i64 0, Value.int .i64 0, Value.int .i64 0] ++ cs1.drop (n * 10 + 10)).take (n * 10) = flatR (l.eraseIdx i) := by
    rw [List.append_assoc, List.take_append_of_le_length (by simp; omega), List.take_take, Nat.min_self, htk1]
  have hcur2 : (cs1.take (n * 10) ++ [Value.int .i64 0, Value.int .i64 0, Value.int .i64 0, Value.int .i64 0, Value.int .i64 0, Value.int .i64 0, Value.int .i64 0, Value.int .i64 0, Value.int .i64 0, Value.int .i64 0] ++ cs1.drop (n * 10 + 10)).toArray.size = cap * 10 := by simp only [List.size_toArray, List.length_append, List.length_take, List.length_drop, List.length_cons, List.length_nil, hlc]; omega
  generalize (cs1.take (n * 10) ++ [Value.int .i64 0, Value.int .i64 0, Value.int .i64 0, Value.int .i64 0, Value.int .i64 0, Value.int .i64 0, Value.int .i64 0, Value.int .i64 0, Value.int .i64 0, Value.int .i64 0] ++ cs1.drop (n * 10 + 10)) = cs2 at hcl hg2 hk2 htk2 hcur2 ⊢
  generalize w1.setRow g cs2.toArray = w2 at hcl hg2 hk2 ⊢
  have HK2 := hid hk2
  have HG2 := hid hg2
  have HT2 := hid htk2
  have HC2 := hid hcur2
  clear hg1 hk1 hcur1 htk1 hread hxs hnl hz1 hlc hg2 hk2 htk2 hcur2 hcur
  repeat (first
    | (refine' wpT_calm (v := _) (by rfl) (fun W hW => ?_) ?_; rotate_left
       · ((try dsimp only at hW); go_simp; first | done | rfl)
       simp only [Act.put, List.setIfInBounds_toArray, List.set_cons_zero, List.set_cons_succ])
    | (refine' wpT_reads (v := _) (by rfl) ?_ ?_; rotate_left
       · (go_simp; first | done | rfl)
       simp only [Act.put, List.setIfInBounds_toArray, List.set_cons_zero, List.set_cons_succ])
    | (refine wpT_skip (by rfl) rfl ?_; simp only [Act.put, List.setIfInBounds_toArray, List.set_cons_zero, List.set_cons_succ])
    | (refine wpT_does (by rfl) (fun K hK => ?_); go_simp; refine hK _ _ ?_ ?_
       · (trivial)
       clear hK K; try simp only [Act.put, List.setIfInBounds_toArray, List.set_cons_zero, List.set_cons_succ])
    | (refine wpT_last (by rfl) (fun K hK => ?_); go_simp; refine hK _ _ ?_; clear hK K)
    | (refine wpT_nil ?_))
  go_wp2
  all_goals
    go_ret
    refine ⟨_, rfl, ?_, rfl, HK2.out.mono fun k _ e => by rw [e]; rfl⟩
    have hle : (l.eraseIdx i).length = n := by rw [List.length_eraseIdx_of_lt (by rw [HN.out]; omega), HN.out]; rfl
    refine ⟨by rw [flatR_length], .inr ⟨g, cap, cs2.toArray, by rw [hle]; first | rfl | (subst h; rfl), Nat.zero_le _, HG2.out, by omega, by unfold maxLen; omega, by rw [HC2.out], ?_⟩⟩
    rw [hle]
    exact HT2.out
end Go.Proofs.Ytpijnpapmdnceaa

namespace Go.Proofs.Ytpijnpapmdnceaa
open Go Go.RowKit

/-- A list of records that can be read. -/
def ReadR (w : World) (v : Value) (l : List Rc) : Prop :=
  (∃ a c, v = .slice a 0 c ∧ l = []) ∨ ∃ g off c, v = .slice (some ⟨g, off, none⟩) l.length c ∧ g < w.heap.size ∧ l.length ≤ maxLen ∧ ∀ j u, (flatR l)[j]? = some u → w.cell? ⟨g, off + j, none⟩ = some u
theorem ReadR.form {w : World} {v : Value} {l : List Rc} (h : ReadR w v l) : ∃ a c, v = .slice a l.length c := by
  rcases h with ⟨a, c, rfl, rfl⟩ | ⟨g, off, c, rfl, _⟩
  · exact ⟨a, c, rfl⟩
  · exact ⟨_, c, rfl⟩
theorem ReadR.keep {F : Nat → Prop} {w w' : World} {v : Value} {l : List Rc} (h : ReadR w v l) (hK : Keep F w w') (hF : ∀ k, v.ownBlock = some k → ¬ F k) : ReadR w' v l := by
  rcases h with h | ⟨g, off, c, rfl, hg, hm, hc⟩
  · exact .inl h
  · exact .inr ⟨g, off, c, rfl, Nat.lt_of_lt_of_le hg hK.size, hm, fun j u hu => (hK.cell (p := ⟨g, off + j, none⟩) hg (hF g rfl)).trans (hc j u hu)⟩
theorem OwnR.reads {w : World} {v : Value} {l : List Rc} (h : OwnR w v l) : ReadR w v l := by
  obtain ⟨h1, ⟨rfl, h0⟩ | ⟨g, cap, cur, rfl, _, hg, hn, hc, hs, ht⟩⟩ := h
  · exact .inl ⟨_, _, rfl, List.eq_nil_of_length_eq_zero h0⟩
  · refine .inr ⟨g, 0, cap, rfl, lt_of_heap hg, Nat.le_trans hn hc, fun j u hu => ?_⟩
    rw [Nat.zero_add, cell_of_row w g j cur 42 (0, 0) hg]
    rw [← ht, List.getElem?_take] at hu
    split at hu
    · simpa using hu
    · cases hu
theorem ReadR.src {w : World} {ad : Addr} {n c : Nat} {l : List Rc} (h : ReadR w (.slice (some ad) n c) l) : Src w (.slice (some ad) n c) l.length 10 (flatR l) := by
  rcases h with ⟨a, c', hv, rfl⟩ | ⟨g, off, c', hv, hg, hm, hc⟩
  · simp only [Value.slice.injEq] at hv
    obtain ⟨_, rfl, _⟩ := hv
    exact .inr ⟨ad, c, rfl, rfl, fun j u hu => by simp [flatR] at hu, fun u hu => by simp [flatR] at hu⟩
  · simp only [Value.slice.injEq, Option.some.injEq] at hv
    obtain ⟨rfl, rfl, rfl⟩ := hv
    exact .inr ⟨_, _, rfl, flatR_length l, fun j u hu => by rw [add_off]; exact hc j u hu, flatR_one l⟩
def aggCells (r : Rc) : Array Value := #[.int .i64 r.s, .int .i64 r.t, .int .i64 r.c, .int .i64 r.o, .int .i64 r.e, .int .i64 r.n, .int .i64 r.m, .int .i64 r.a, .int .i64 r.b, .int .i64 r.d]
theorem one_srcR (w : World) (x : Rc) : Src (w.alloc (.cells #[.int .i64 x.s, .int .i64 x.t, .int .i64 x.c, .int .i64 x.o, .int .i64 x.e, .int .i64 x.n, .int .i64 x.m, .int .i64 x.a, .int .i64 x.b, .int .i64 x.d] 42)) (.slice (some ⟨w.heap.size, 0, none⟩) 1 1) 1 10 (flatR [x]) := by
  refine .inr ⟨_, _, rfl, rfl, fun j u hu => ?_, flatR_one _⟩
  rw [add_off, Nat.zero_add, World.cell?_alloc_new]
  simpa [flatR, Rc.cells, Rc.nums] using hu
theorem made_rowR (w : World) : (w.alloc (.cells #[] 42)).ownsRow 0 42 10 (.slice (some ⟨w.heap.size, 0, none⟩) 0 0) 0 [] := World.ownsRow_made w #[] 0 (Nat.zero_le _) (by simp [maxLen]) (by simp)
theorem wp_append_recs (w : World) {o : Oper} {a : Act} {K : Act → World → Prop} {Q : Exit → Act → World → Prop} (s y : Operand)
    (ho : o.op = .call { callee := .builtin .append, args := #[s, y], argTypes := #[32, 32] })
    (v : Value) (l : List Rc) (hs : a.eval s = v) (hown : OwnR w v l) (sv : Value) (m : Nat) (news : List Rc) (hx : a.eval y = sv) (hsrc : Src w sv m 10 (flatR news)) (hn : l.length + m ≤ 1000000)
    (h : ∀ v' w', OwnR w' v' (l ++ news) → (∀ k, v'.ownBlock = some k → v.ownBlock = some k ∨ w.heap.size ≤ k) → Keep (fun k => v.ownBlock = some k) w w' → K (a.put o.dst v') w') : o.wp Try.prog a w K Q := by
  obtain ⟨i0, hi, hz0, hz1, hz2⟩ := info_parts Try.infoR
  have hm : news.length = m := by
    rcases hsrc with ⟨_, h1, h2⟩ | ⟨_, _, _, h2, _⟩
    · have h3 : news.length * 10 = 0 := by rw [← flatR_length, h2]; rfl
      omega
    · rw [flatR_length] at h2; omega
  refine wp_append_src w s y 32 ho 0 42 i0 (.agg #[.int .i64 0, .int .i64 0, .int .i64 0, .int .i64 0, .int .i64 0, .int .i64 0, .int .i64 0, .int .i64 0, .int .i64 0, .int .i64 0]) 10 80 Try.underlying32 hi hz0 hz1 hz2 rfl (by decide) v l.length (flatR l) hs hown sv m _ hx hsrc (by unfold maxLen; omega) (by omega) (Nat.zero_le _) ?_
  intro v1 w1 o1 g1 f1
  refine h v1 w1 ?_ f1 (Keep.of_grown g1)
  unfold OwnR
  rw [List.length_append, flatR_append, hm]
  exact o1
theorem clipr_any {w : World} (a : Option Addr) (n c : Nat) (h : n ≤ c) :
    Calls Try.prog 40 #[.slice a n c] w fun e w' => e = .returned (.slice a n n) ∧ w = w' := by
  have h1 : (n : Int) ≤ (c : Int) := by omega
  go_enter Try.func40, Try.ntmps40
  go_wp2
  go_ret
  exact ⟨rfl, rfl⟩

set_option maxRecDepth 10000 in
set_option maxHeartbeats 1000000 in
theorem cloner_any {w : World} {v : Value} {l : List Rc} (h : ReadR w v l) (hn : l.length ≤ 1000000) :
    Calls Try.prog 41 #[v] w fun e w' => ∃ v', e = .returned v' ∧ OwnR w' v' l ∧ (∀ k, v'.ownBlock = some k → w.heap.size ≤ k) ∧ Keep (fun _ => False) w w' := by
  obtain ⟨i0, hi, hz0, hz1, hz2⟩ := info_parts Try.infoR
  have hi := hid hi
  have hz0 := hid hz0
  have hz1 := hid hz1
  have hz2 := hid hz2
  obtain ⟨a, c, rfl⟩ := h.form
  cases a with
  | none =>
    have hl : l = [] := by
      rcases h with ⟨_, _, _, h0⟩ | ⟨g, off, c', hv, _⟩
      · exact h0
      · simp at hv
    subst hl
    have e1 : ∀ W, (binOp .eql 32 (.slice none 0 c) (.slice none 0 0)).run Try.prog W = .ok (.bool true) W := fun W => by kernel_rfl
    clear h
    go_enter Try.func41, Try.ntmps41
    go_wp2
    go_ret
    exact ⟨_, rfl, OwnR.nil _, fun k hk => by simp [Value.ownBlock] at hk, Keep.refl _ _⟩
  | some ad =>
    have e1 : ∀ W, (binOp .eql 32 (.slice (some ad) l.length c) (.slice none 0 0)).run Try.prog W = .ok (.bool false) W := fun W => by kernel_rfl
    have hs := h.src.keep (F := fun _ => False) ((Keep.refl _ _).alloc (.cells #[] 42)) (fun _ _ h => h)
    have HS := hid hs
    clear h hs
    go_enter Try.func41, Try.ntmps41
    go_wp2_with (at_builtin; refine wpList_plain rfl (fun K hK => wp_append_src _ (.tmp 5) (.tmp 6) 32 rfl 0 42 i0 (.agg #[.int .i64 0, .int .i64 0, .int .i64 0, .int .i64 0, .int .i64 0, .int .i64 0, .int .i64 0, .int .i64 0, .int .i64 0, .int .i64 0]) 10 80 Try.underlying32 hi.out hz0.out hz1.out hz2.out rfl (by decide) _ 0 [] rfl (made_rowR w) _ l.length (flatR l) rfl HS.out (by unfold maxLen; omega) (by omega) (Nat.zero_le _) ?_))
    intro v1 w1 o1 g1 f1
    refine hK _ _ ?_
    clear hK K
    have K1 : Keep (fun _ => False) w w1 := ((Keep.refl _ _).alloc _).grown g1 (fun k hk => .inr (Nat.le_of_eq (Option.some.inj hk)))
    obtain ⟨a1, c1, rfl⟩ := owns_form o1
    have O1 := hid o1
    have F1 := hid f1
    clear o1 g1 f1
    go_wp2
    go_ret
    refine ⟨_, rfl, ?_, fun k hk => ?_, K1⟩
    · have := O1.out
      unfold OwnR
      simpa using this
    · rcases F1.out k hk with h | h
      · exact Nat.le_of_eq (Option.some.inj h)
      · try simp at h
        omega
end Go.Proofs.Ytpijnpapmdnceaa

namespace Go.Proofs.Ytpijnpapmdnceaa
open Go Go.RowKit

/-- A log. -/
structure Lg where
  ring : Int
  l : List Rc
  base : List B8
  head : List B8
  drop : Nat
/-- It lies at b, its list's value is v. -/
structure LogAt (w : World) (b : Nat) (v : Value) (L : Lg) : Prop where
  row : w.heap[b]? = some (.cells #[.int .i64 L.ring, v, .string (bya L.base), .string (bya L.head), .int .i64 (L.drop : Int)] 67 (0, 0))
  own : OwnR w v L.l
  ne : v.ownBlock ≠ some b
  bl : L.base.length = 32
  hl : L.head.length = 32
section
variable {w w' : World} {b : Nat} {v : Value} {L : Lg}
theorem LogAt.lt (h : LogAt w b v L) : b < w.heap.size := lt_of_heap h.row
theorem LogAt.c0 (h : LogAt w b v L) : w.cell? ⟨b, 0, none⟩ = some (.int .i64 L.ring) := by rw [cell_of_row w b 0 _ _ _ h.row]; rfl
theorem LogAt.c1 (h : LogAt w b v L) : w.cell? ⟨b, 1, none⟩ = some v := by rw [cell_of_row w b 1 _ _ _ h.row]; rfl
theorem LogAt.c2 (h : LogAt w b v L) : w.cell? ⟨b, 2, none⟩ = some (.string (bya L.base)) := by rw [cell_of_row w b 2 _ _ _ h.row]; rfl
theorem LogAt.c3 (h : LogAt w b v L) : w.cell? ⟨b, 3, none⟩ = some (.string (bya L.head)) := by rw [cell_of_row w b 3 _ _ _ h.row]; rfl
theorem LogAt.c4 (h : LogAt w b v L) : w.cell? ⟨b, 4, none⟩ = some (.int .i64 (L.drop : Int)) := by rw [cell_of_row w b 4 _ _ _ h.row]; rfl
theorem LogAt.fro (h : LogAt w b v L) (i : Nat) : w.frozen? ⟨b, i, none⟩ = false := frozen_of_row w b i _ _ h.row
theorem LogAt.keep {F : Nat → Prop} (h : LogAt w b v L) (hK : Keep F w w') (hb : ¬ F b) (hF : ∀ k, v.ownBlock = some k → ¬ F k) : LogAt w' b v L :=
  ⟨(hK.block b h.lt hb).trans h.row, h.own.keep hK hF, h.ne, h.bl, h.hl⟩
end
def zero32 : List B8 := List.replicate 32 0#8
def ringOf (n : Int) : Int := max 1 (min n 16)
def newL (n : Int) : Lg := ⟨ringOf n, [], zero32, zero32, 0⟩

set_option maxRecDepth 10000 in
set_option maxHeartbeats 1000000 in
theorem anew_any (n : Int) (w : World) :
    Calls Try.prog 17 #[.int .i64 n] w fun e w' => ∃ b, e = .returned (.pointer (some ⟨b, 0, none⟩)) ∧ w.heap.size ≤ b ∧ LogAt w' b (.slice none 0 0) (newL n) ∧ Keep (fun _ => False) w w' := by
  go_enter Try.func17, Try.ntmps17
  have e16 : ∀ (q : Int), q = min n 16 → max 1 q = ringOf n := fun q h => by rw [h]; rfl
  go_wp2_with fail
  refine (start_any _).mono ?_
  rintro _ w1 ⟨rfl, k1⟩
  have K1 := hid k1
  clear k1
  rw [bstr_eq]
  go_wp2_with fail
  refine (start_any _).mono ?_
  rintro _ w2 ⟨rfl, k2⟩
  have K2 := hid (K1.out.trans k2)
  clear k2 K1
  rw [bstr_eq]
  go_wp2_with fail
  go_ret
  exact ⟨w2.heap.size, rfl, K2.out.size, ⟨heap_alloc_new w2 _, OwnR.nil _, fun h => (by cases h), rfl, rfl⟩, K2.out.alloc _⟩
end Go.Proofs.Ytpijnpapmdnceaa

namespace Go.Proofs.Ytpijnpapmdnceaa
open Go Go.RowKit

def rc0 : Rc := ⟨0, 0, 0, 0, 0, 0, 0, 0, 0, 0⟩
def pushL (L : Lg) (r : Rc) : Lg := { L with l := L.l ++ [r], head := chn L.head r }
def cutL (L : Lg) : Lg := { L with base := chn L.base (L.l.getD 0 rc0), l := L.l.eraseIdx 0, drop := L.drop + 1 }

section
variable {w : World} {b : Nat} {v : Value} {L : Lg}
theorem own_set {w : World} {b i : Nat} {v u : Value} {l : List Rc} (o : OwnR w v l) (hv : v.ownBlock ≠ some b) : OwnR (w.setCell ⟨b, i, none⟩ u) v l :=
  o.keep (F := fun k => k = b) ((Keep.refl _ _).setOwn u) (fun k hk e => hv (by rw [hk, e]))
theorem LogAt.list (h : LogAt w b v L) {v1 : Value} {l1 : List Rc} (o : OwnR w v1 l1) (hv : v1.ownBlock ≠ some b) : LogAt (w.setCell ⟨b, 1, none⟩ v1) b v1 { L with l := l1 } :=
  ⟨heap_setCell_same w b 1 _ _ _ h.row, own_set o hv, hv, h.bl, h.hl⟩
theorem LogAt.listOf {w1 : World} (h : LogAt w b v L) (hr : w1.heap[b]? = w.heap[b]?) {v1 : Value} {l1 : List Rc} (o : OwnR w1 v1 l1) (hv : v1.ownBlock ≠ some b) : LogAt (w1.setCell ⟨b, 1, none⟩ v1) b v1 { L with l := l1 } :=
  ⟨heap_setCell_same w1 b 1 _ _ _ (hr.trans h.row), own_set o hv, hv, h.bl, h.hl⟩
theorem LogAt.heads (h : LogAt w b v L) (x : List B8) (hx : x.length = 32) : LogAt (w.setCell ⟨b, 3, none⟩ (.string (bya x))) b v { L with head := x } :=
  ⟨heap_setCell_same w b 3 _ _ _ h.row, own_set h.own h.ne, h.ne, h.bl, hx⟩
theorem LogAt.bases (h : LogAt w b v L) (x : List B8) (hx : x.length = 32) : LogAt (w.setCell ⟨b, 2, none⟩ (.string (bya x))) b v { L with base := x } :=
  ⟨heap_setCell_same w b 2 _ _ _ h.row, own_set h.own h.ne, h.ne, hx, h.hl⟩
theorem LogAt.drops (h : LogAt w b v L) (n : Nat) : LogAt (w.setCell ⟨b, 4, none⟩ (.int .i64 (n : Int))) b v { L with drop := n } :=
  ⟨heap_setCell_same w b 4 _ _ _ h.row, own_set h.own h.ne, h.ne, h.bl, h.hl⟩
end

end Go.Proofs.Ytpijnpapmdnceaa

namespace Go.Proofs.Ytpijnpapmdnceaa
open Go Go.RowKit

set_option maxRecDepth 10000 in
set_option maxHeartbeats 1000000 in
theorem aadd_any {w : World} {b : Nat} {v : Value} {L : Lg} (h : LogAt w b v L) (hr : 1 ≤ L.ring) (hd : L.drop ≤ 100000) (hl : L.l.length ≤ 1000) (t c o e n m x y z : Int) :
    Calls Try.prog 19 #[.pointer (some ⟨b, 0, none⟩), .agg #[.int .i64 t, .int .i64 c, .int .i64 o, .int .i64 e, .int .i64 n, .int .i64 m], .int .i64 x, .int .i64 y, .int .i64 z] w fun e' w' =>
      ∃ v', e' = .returned (.tuple #[]) ∧ LogAt w' b v' (pushL (if (L.l.length : Int) = L.ring then cutL L else L) ⟨(L.drop : Int) + (L.l.length : Int), t, c, o, e, n, m, x, y, z⟩) ∧ (∀ k, v'.ownBlock = some k → v.ownBlock = some k ∨ w.heap.size ≤ k) ∧ Keep (fun k => k = b ∨ v.ownBlock = some k) w w' := by
  obtain ⟨a0, c0, hv⟩ := h.own.form
  have H := hid h
  subst hv
  have WB := h.lt
  have g0 := h.c0
  have g1 := h.c1
  have g4 := h.c4
  have f1 := h.fro 1
  clear h
  obtain ⟨ln, hln⟩ : ∃ ln, L.l.length = ln := ⟨_, rfl⟩
  have HLN := hid hln
  rw [hln] at g1 hl H ⊢
  clear hln
  obtain ⟨dr, hdr⟩ : ∃ dr, L.drop = dr := ⟨_, rfl⟩
  have HDR := hid hdr
  rw [hdr] at g4 hd ⊢
  clear hdr
  have sm : IntKind.i64.wrap ((dr : Int) + (ln : Int)) = ((dr + ln : Nat) : Int) := IntWalk.i64_in _ ⟨by omega, by omega⟩
  have bne : ∀ q, q ≠ b → ((⟨q, 0, none⟩ : Addr) = ⟨b, 0, none⟩) = False := fun q hq => by simp [hq]
  go_enter Try.func19, Try.ntmps19
  go_wp2_with fail
  have A0 : (w.alloc (.cells #[.int .i64 t, .int .i64 c, .int .i64 o, .int .i64 e, .int .i64 n, .int .i64 m] 40)).heap.size = w.heap.size + 1 := World.size_alloc _ _
  have K0 : Keep (fun _ => False) w (w.alloc (.cells #[.int .i64 t, .int .i64 c, .int .i64 o, .int .i64 e, .int .i64 n, .int .i64 m] 40)) := (Keep.refl _ _).alloc _
  have HK0 := hid K0
  have o0 : ∀ i, i < 6 → (w.alloc (.cells #[.int .i64 t, .int .i64 c, .int .i64 o, .int .i64 e, .int .i64 n, .int .i64 m] 40)).cell? ⟨w.heap.size, i, none⟩ = some (#[Value.int .i64 t, .int .i64 c, .int .i64 o, .int .i64 e, .int .i64 n, .int .i64 m].getD i undef) := fun i hi => by
    rw [World.cell?_alloc_new]
    have : i = 0 ∨ i = 1 ∨ i = 2 ∨ i = 3 ∨ i = 4 ∨ i = 5 := by omega
    rcases this with rfl | rfl | rfl | rfl | rfl | rfl <;> rfl
  refine wp_region_text [0,0,0,0,0,0,0,0,0,0,0,0,0,0,0,2,3] (fun W => W.cell? ⟨b, 1, none⟩ = some (.slice a0 ln c0) ∧ W.cell? ⟨b, 4, none⟩ = some (.int .i64 (dr : Int)) ∧ W.cell? ⟨w.heap.size, 0, none⟩ = some (.int .i64 t) ∧ W.cell? ⟨w.heap.size, 1, none⟩ = some (.int .i64 c) ∧ W.cell? ⟨w.heap.size, 2, none⟩ = some (.int .i64 o) ∧ W.cell? ⟨w.heap.size, 3, none⟩ = some (.int .i64 e) ∧ W.cell? ⟨w.heap.size, 4, none⟩ = some (.int .i64 n) ∧ W.cell? ⟨w.heap.size, 5, none⟩ = some (.int .i64 m)) (by kernel_rfl) (by kernel_rfl) ⟨(K0.cell (p := ⟨b, 1, none⟩) WB (fun h => h)).trans g1, (K0.cell (p := ⟨b, 4, none⟩) WB (fun h => h)).trans g4, o0 0 (by omega), o0 1 (by omega), o0 2 (by omega), o0 3 (by omega), o0 4 (by omega), o0 5 (by omega)⟩ ?_
  repeat (first
    | (refine' wpT_calm (v := _) (by rfl) (fun W hW => ?_) ?_; rotate_left
       · ((try dsimp only at hW); go_simp; first | done | rfl)
       simp only [Act.put, List.setIfInBounds_toArray, List.set_cons_zero, List.set_cons_succ])
    | (refine' wpT_reads (v := _) (by rfl) ?_ ?_; rotate_left
       · (go_simp; first | done | rfl)
       simp only [Act.put, List.setIfInBounds_toArray, List.set_cons_zero, List.set_cons_succ])
    | (refine wpT_skip (by rfl) rfl ?_; simp only [Act.put, List.setIfInBounds_toArray, List.set_cons_zero, List.set_cons_succ])
    | (refine wpT_does (by rfl) (fun K hK => ?_); go_simp; refine hK _ _ ?_ ?_
       · (trivial)
       clear hK K; try simp only [Act.put, List.setIfInBounds_toArray, List.set_cons_zero, List.set_cons_succ])
    | (refine wpT_last (by rfl) (fun K hK => ?_); go_simp; refine hK _ _ ?_; clear hK K)
    | (refine wpT_nil ?_))
  have KW : Keep (fun _ => False) w (w.alloc (.cells #[.int .i64 t, .int .i64 c, .int .i64 o, .int .i64 e, .int .i64 n, .int .i64 m] 40)).drew := HK0.out.drew
  have p1 := (KW.cell (p := ⟨b, 1, none⟩) WB (fun h => h)).trans g1
  have p4 := (KW.cell (p := ⟨b, 4, none⟩) WB (fun h => h)).trans g4
  have AW : (w.alloc (.cells #[.int .i64 t, .int .i64 c, .int .i64 o, .int .i64 e, .int .i64 n, .int .i64 m] 40)).drew.heap.size = w.heap.size + 1 := World.size_alloc _ _
  have oW : ∀ i, i < 6 → (w.alloc (.cells #[.int .i64 t, .int .i64 c, .int .i64 o, .int .i64 e, .int .i64 n, .int .i64 m] 40)).drew.cell? ⟨w.heap.size, i, none⟩ = some (#[Value.int .i64 t, .int .i64 c, .int .i64 o, .int .i64 e, .int .i64 n, .int .i64 m].getD i undef) := fun i hi => o0 i hi
  obtain ⟨W1, hW1⟩ : ∃ W1, (w.alloc (.cells #[.int .i64 t, .int .i64 c, .int .i64 o, .int .i64 e, .int .i64 n, .int .i64 m] 40)).drew = W1 := ⟨_, rfl⟩
  rw [hW1] at KW p1 p4 AW oW ⊢
  clear o0 K0 A0 HK0 hW1
  have HKW := hid KW
  clear KW
  refine wpT_does (by rfl) (fun K hK => ?_)
  go_simp
  have KA : Keep (fun _ => False) W1 (W1.alloc (.cells #[.int .i64 0, .int .i64 0, .int .i64 0, .int .i64 0, .int .i64 0, .int .i64 0, .int .i64 0, .int .i64 0, .int .i64 0, .int .i64 0] 42)) := (Keep.refl _ _).alloc _
  have lw : ∀ i, i < 6 → (W1.alloc (.cells #[.int .i64 0, .int .i64 0, .int .i64 0, .int .i64 0, .int .i64 0, .int .i64 0, .int .i64 0, .int .i64 0, .int .i64 0, .int .i64 0] 42)).cell? ⟨w.heap.size, i, none⟩ = some (#[Value.int .i64 t, .int .i64 c, .int .i64 o, .int .i64 e, .int .i64 n, .int .i64 m].getD i undef) := fun i hi => (KA.cell (p := ⟨w.heap.size, i, none⟩) (by dsimp only; omega) (fun h => h)).trans (oW i hi)
  refine hK _ _ ⟨(KA.cell (p := ⟨b, 1, none⟩) (by dsimp only; omega) (fun h => h)).trans p1, (KA.cell (p := ⟨b, 4, none⟩) (by dsimp only; omega) (fun h => h)).trans p4, lw 0 (by omega), lw 1 (by omega), lw 2 (by omega), lw 3 (by omega), lw 4 (by omega), lw 5 (by omega)⟩ ?_
  clear hK K lw
  try simp only [Act.put, List.setIfInBounds_toArray, List.set_cons_zero, List.set_cons_succ]
  refine wpT_last (by rfl) (fun K hK => ?_)
  go_simp
  refine hK _ _ ?_
  clear hK K
  have KW2 : Keep (fun _ => False) w (W1.alloc (.cells #[.int .i64 ((dr : Int) + (ln : Int)), .int .i64 t, .int .i64 c, .int .i64 o, .int .i64 e, .int .i64 n, .int .i64 m, .int .i64 x, .int .i64 y, .int .i64 z] 42)) := HKW.out.alloc _
  have r2 : (W1.alloc (.cells #[.int .i64 ((dr : Int) + (ln : Int)), .int .i64 t, .int .i64 c, .int .i64 o, .int .i64 e, .int .i64 n, .int .i64 m, .int .i64 x, .int .i64 y, .int .i64 z] 42)).heap[w.heap.size + 1]? = some (.cells #[.int .i64 ((dr : Int) + (ln : Int)), .int .i64 t, .int .i64 c, .int .i64 o, .int .i64 e, .int .i64 n, .int .i64 m, .int .i64 x, .int .i64 y, .int .i64 z] 42 (0, 0)) := by rw [← AW]; exact heap_alloc_new W1 _
  have SW2 : (W1.alloc (.cells #[.int .i64 ((dr : Int) + (ln : Int)), .int .i64 t, .int .i64 c, .int .i64 o, .int .i64 e, .int .i64 n, .int .i64 m, .int .i64 x, .int .i64 y, .int .i64 z] 42)).heap.size = w.heap.size + 2 := by rw [World.size_alloc, AW]
  obtain ⟨W2, hW2⟩ : ∃ W2, (W1.alloc (.cells #[.int .i64 ((dr : Int) + (ln : Int)), .int .i64 t, .int .i64 c, .int .i64 o, .int .i64 e, .int .i64 n, .int .i64 m, .int .i64 x, .int .i64 y, .int .i64 z] 42)) = W2 := ⟨_, rfl⟩
  rw [hW2] at KW2 r2 SW2 ⊢
  clear hW2 KA p1 p4 AW oW HKW
  have HB := hid (H.out.keep KW2 (fun h => h) (fun _ _ h => h))
  have HK2 := hid KW2
  have HR2 := hid r2
  have HS2 := hid SW2
  clear KW2 r2 SW2 g0 g1 g4 f1
  have b0 := HB.out.c0
  have b1 := HB.out.c1
  go_wp2_with fail
  refine wp_region_text [0,0,0,0,0,0,0,0,0,0] (fun W => W.cell? ⟨b, 0, none⟩ = some (.int .i64 L.ring) ∧ W.cell? ⟨b, 1, none⟩ = some (.slice a0 ln c0)) (by kernel_rfl) (by kernel_rfl) ⟨b0, b1⟩ ?_
  repeat (first
    | (refine' wpT_calm (v := _) (by rfl) (fun W hW => ?_) ?_; rotate_left
       · ((try dsimp only at hW); go_simp; first | done | rfl)
       simp only [Act.put, List.setIfInBounds_toArray, List.set_cons_zero, List.set_cons_succ])
    | (refine' wpT_reads (v := _) (by rfl) ?_ ?_; rotate_left
       · (go_simp; first | done | rfl)
       simp only [Act.put, List.setIfInBounds_toArray, List.set_cons_zero, List.set_cons_succ])
    | (refine wpT_skip (by rfl) rfl ?_; simp only [Act.put, List.setIfInBounds_toArray, List.set_cons_zero, List.set_cons_succ])
    | (refine wpT_does (by rfl) (fun K hK => ?_); go_simp; refine hK _ _ ?_ ?_
       · (trivial)
       clear hK K; try simp only [Act.put, List.setIfInBounds_toArray, List.set_cons_zero, List.set_cons_succ])
    | (refine wpT_last (by rfl) (fun K hK => ?_); go_simp; refine hK _ _ ?_; clear hK K)
    | (refine wpT_nil ?_))
  have HBd := hid (HB.out.keep ((Keep.refl (fun _ => False) W2).drew) (fun h => h) (fun _ _ h => h))
  clear b0 b1
  by_cases hfull : (ln : Int) = L.ring
  · have hq : ((ln : Int) == L.ring) = true := by simp [hfull]
    have ln1 : 0 < L.l.length := by rw [HLN.out]; omega
    have ln2 : 0 < ln := by omega
    have LB := HBd.out.own
    obtain ⟨g, hg⟩ : ∃ g, a0 = some ⟨g, 0, none⟩ := by
      rcases LB.2 with ⟨h1, h2⟩ | ⟨g, cap, cur, h1, _⟩
      · rw [HLN.out] at h2; omega
      · simp only [Value.slice.injEq] at h1; exact ⟨g, h1.1⟩
    subst hg
    obtain ⟨q0, hq0⟩ : ∃ q0, L.l.getD 0 rc0 = q0 := ⟨_, rfl⟩
    have hq1 : L.l[0] = q0 := by rw [← hq0, List.getD_eq_getElem?_getD, List.getElem?_eq_getElem ln1]; rfl
    have gl : g < w.heap.size := (H.out.own.lt g rfl).2
    have gne : g ≠ b := fun e => H.out.ne (by rw [e]; rfl)
    have rg : ∀ j u, q0.cells[j]? = some u → W2.drew.drew.cell? ⟨g, j, none⟩ = some u := fun j u hu => by
      have hj : j < 10 := (List.getElem?_eq_some_iff.1 hu).1
      have h1 := flatR_get L.l 0 j ln1 hj
      rw [hq1, hu, Nat.zero_mul, Nat.zero_add] at h1
      rw [World.cell?_drew]
      have h2 := LB.cells (g := g) rfl j u h1
      rw [add_off, Nat.zero_add] at h2
      exact h2
    have HBe := hid (HBd.out.keep ((Keep.refl (fun _ => False) _).drew) (fun h => h) (fun _ _ h => h))
    have q1 := HBe.out.c1
    have q2 := HBe.out.c2
    have HQ0 := hid hq0
    clear hq0 hq1 LB
    have lni : (0 : Int) < (ln : Int) := by omega
    have ln3 : ¬ ln = 0 := by omega
    have ln4 : ¬ (ln : Int) ≤ 0 := by omega
    have ln5 : ¬ ln ≤ 0 := by omega
    have HFU := hid hfull
    go_wp2_with fail
    clear hq hfull
    refine wp_region_text [0,0,0,0,0,0,0,0,0,0,0,2,0,0,3] (fun W => W.cell? ⟨b, 2, none⟩ = some (.string (bya L.base)) ∧ W.cell? ⟨b, 1, none⟩ = some (.slice (some ⟨g, 0, none⟩) ln c0) ∧ W.cell? ⟨g, 0, none⟩ = some (.int .i64 q0.s) ∧ W.cell? ⟨g, 1, none⟩ = some (.int .i64 q0.t) ∧ W.cell? ⟨g, 2, none⟩ = some (.int .i64 q0.c) ∧ W.cell? ⟨g, 3, none⟩ = some (.int .i64 q0.o) ∧ W.cell? ⟨g, 4, none⟩ = some (.int .i64 q0.e) ∧ W.cell? ⟨g, 5, none⟩ = some (.int .i64 q0.n) ∧ W.cell? ⟨g, 6, none⟩ = some (.int .i64 q0.m) ∧ W.cell? ⟨g, 7, none⟩ = some (.int .i64 q0.a) ∧ W.cell? ⟨g, 8, none⟩ = some (.int .i64 q0.b) ∧ W.cell? ⟨g, 9, none⟩ = some (.int .i64 q0.d)) (by kernel_rfl) (by kernel_rfl) ⟨q2, q1, rg 0 _ rfl, rg 1 _ rfl, rg 2 _ rfl, rg 3 _ rfl, rg 4 _ rfl, rg 5 _ rfl, rg 6 _ rfl, rg 7 _ rfl, rg 8 _ rfl, rg 9 _ rfl⟩ ?_
    repeat (first
      | (refine' wpT_calm (v := _) (by rfl) (fun W hW => ?_) ?_; rotate_left
         · ((try dsimp only at hW); go_simp; first | done | rfl)
         simp only [Act.put, List.setIfInBounds_toArray, List.set_cons_zero, List.set_cons_succ])
      | (refine' wpT_reads (v := _) (by rfl) ?_ ?_; rotate_left
         · (go_simp; first | done | rfl)
         simp only [Act.put, List.setIfInBounds_toArray, List.set_cons_zero, List.set_cons_succ])
      | (refine wpT_skip (by rfl) rfl ?_; simp only [Act.put, List.setIfInBounds_toArray, List.set_cons_zero, List.set_cons_succ])
      | (refine wpT_does (by rfl) (fun K hK => ?_); go_simp; refine hK _ _ ?_ ?_
         · (trivial)
         clear hK K; try simp only [Act.put, List.setIfInBounds_toArray, List.set_cons_zero, List.set_cons_succ])
      | (refine wpT_last (by rfl) (fun K hK => ?_); go_simp; refine hK _ _ ?_; clear hK K)
      | (refine wpT_nil ?_))
    refine wpT_does (by rfl) (fun K hK => ?_)
    go_simp
    refine (chain_any L.base (by have h1 := HBe.out.bl; omega) q0 _).mono ?_
    rintro _ w3 ⟨rfl, k3⟩
    have H3 := hid (HBe.out.keep k3 (fun h => h) (fun _ _ h => h))
    have HK3 := hid (((HK2.out.drew).drew).trans k3)
    have s2 := H3.out.c2
    have s1 := H3.out.c1
    have rg3 : ∀ j u, q0.cells[j]? = some u → w3.cell? ⟨g, j, none⟩ = some u := fun j u hu => (k3.cell (p := ⟨g, j, none⟩) (World.block_lt_of_cell? _ _ (rg j u hu)) (fun h => h)).trans (rg j u hu)
    have f2 := H3.out.fro 2
    refine hK _ _ ⟨s2, s1, rg3 0 _ rfl, rg3 1 _ rfl, rg3 2 _ rfl, rg3 3 _ rfl, rg3 4 _ rfl, rg3 5 _ rfl, rg3 6 _ rfl, rg3 7 _ rfl, rg3 8 _ rfl, rg3 9 _ rfl⟩ ?_
    have QB : (w.heap.size + 1) ≠ b := by omega
    have HQ3 : Hid (w3.heap[w.heap.size + 1]? = some (.cells #[.int .i64 ((dr : Int) + (ln : Int)), .int .i64 t, .int .i64 c, .int .i64 o, .int .i64 e, .int .i64 n, .int .i64 m, .int .i64 x, .int .i64 y, .int .i64 z] 42 (0, 0))) := hid ((k3.block _ (lt_of_heap HR2.out) (fun h => h)).trans HR2.out)
    clear hK K rg rg3 k3 q1 q2 s1
    try simp only [Act.put, List.setIfInBounds_toArray, List.set_cons_zero, List.set_cons_succ]
    rw [bstr_eq]
    repeat (first
      | (refine' wpT_calm (v := _) (by rfl) (fun W hW => ?_) ?_; rotate_left
         · ((try dsimp only at hW); go_simp; first | done | rfl)
         simp only [Act.put, List.setIfInBounds_toArray, List.set_cons_zero, List.set_cons_succ])
      | (refine' wpT_reads (v := _) (by rfl) ?_ ?_; rotate_left
         · (go_simp; first | done | rfl)
         simp only [Act.put, List.setIfInBounds_toArray, List.set_cons_zero, List.set_cons_succ])
      | (refine wpT_skip (by rfl) rfl ?_; simp only [Act.put, List.setIfInBounds_toArray, List.set_cons_zero, List.set_cons_succ])
      | (refine wpT_does (by rfl) (fun K hK => ?_); go_simp; refine hK _ _ ?_ ?_
         · (trivial)
         clear hK K; try simp only [Act.put, List.setIfInBounds_toArray, List.set_cons_zero, List.set_cons_succ])
      | (refine wpT_last (by rfl) (fun K hK => ?_); go_simp; refine hK _ _ ?_; clear hK K)
      | (refine wpT_nil ?_))
    have H4 := hid (H3.out.bases (chn L.base q0) (chn_len _ _))
    have HK4 := hid ((HK3.out.mono (G := fun k => k = b ∨ (Value.slice (some ⟨g, 0, none⟩) ln c0).ownBlock = some k) fun _ _ h => h.elim).setCell (p := ⟨b, 2, none⟩) (.inl (.inl rfl)) (.string (bya (chn L.base q0))))
    have HQ4 : Hid ((w3.setCell ⟨b, 2, none⟩ (.string (bya (chn L.base q0)))).heap[w.heap.size + 1]? = some (.cells #[.int .i64 ((dr : Int) + (ln : Int)), .int .i64 t, .int .i64 c, .int .i64 o, .int .i64 e, .int .i64 n, .int .i64 m, .int .i64 x, .int .i64 y, .int .i64 z] 42 (0, 0))) := hid ((Below.heap_setCell _ _ _ _ (fun e => QB e)).trans HQ3.out)
    obtain ⟨V3, hV3⟩ : ∃ V, w3.setCell ⟨b, 2, none⟩ (.string (bya (chn L.base q0))) = V := ⟨_, rfl⟩
    rw [hV3] at H4 HK4 HQ4 ⊢
    clear hV3 f2 HQ3 H3 HK3 s2
    have d1 := H4.out.c1
    go_wp2_with fail
    refine (deleter_any 0 0 1 rfl rfl ln1 H4.out.own).mono ?_
    rintro _ w5 ⟨v5, rfl, o5, ob5, k5⟩
    obtain ⟨a5, c5, hv5⟩ := o5.form
    obtain ⟨m5, hm5⟩ : ∃ m5, (L.l.eraseIdx 0).length = m5 := ⟨_, rfl⟩
    have hm6 : ln = m5 + 1 := by rw [← hm5, List.length_eraseIdx_of_lt ln1, ← HLN.out]; omega
    have e5 : ({ L with base := chn L.base q0 } : Lg).l.eraseIdx 0 = L.l.eraseIdx 0 := rfl
    rw [e5, hm5] at hv5
    subst hv5
    have RB5 := hid (k5.block b H4.out.lt H4.out.ne)
    have N5 : (Value.slice a5 m5 c5).ownBlock ≠ some b := by rw [ob5]; exact H4.out.ne
    have H5 := hid (H4.out.listOf RB5.out o5 N5)
    have f5 : w5.frozen? ⟨b, 1, none⟩ = false := frozen_of_row w5 b 1 _ _ (RB5.out.trans H4.out.row)
    have HK5 := hid ((HK4.out.trans (k5.mono fun _ _ h => .inr h)).setCell (p := ⟨b, 1, none⟩) (.inl (.inl rfl)) (.slice a5 m5 c5))
    have gq : g ≠ w.heap.size + 1 := by omega
    have HQ5 : Hid ((w5.setCell ⟨b, 1, none⟩ (.slice a5 m5 c5)).heap[w.heap.size + 1]? = some (.cells #[.int .i64 ((dr : Int) + (ln : Int)), .int .i64 t, .int .i64 c, .int .i64 o, .int .i64 e, .int .i64 n, .int .i64 m, .int .i64 x, .int .i64 y, .int .i64 z] 42 (0, 0))) := hid ((Below.heap_setCell _ _ _ _ (fun e => QB e)).trans ((k5.block _ (lt_of_heap HQ4.out) (fun e => gq (Option.some.inj e))).trans HQ4.out))
    have OB5 := hid ob5
    have HM5 := hid hm5
    have HM6 := hid hm6
    have H5a : LogAt w5 b (.slice (some ⟨g, 0, none⟩) ln c0) { L with base := chn L.base q0 } → True := fun _ => trivial
    have row5 := RB5.out.trans H4.out.row
    have t1 : w5.cell? ⟨b, 1, none⟩ = some (.slice (some ⟨g, 0, none⟩) ln c0) := by rw [cell_of_row w5 b 1 _ _ _ row5]; rfl
    have t4 : w5.cell? ⟨b, 4, none⟩ = some (.int .i64 (dr : Int)) := by rw [cell_of_row w5 b 4 _ _ _ row5, ← HDR.out]; rfl
    have f54 : w5.frozen? ⟨b, 4, none⟩ = false := frozen_of_row w5 b 4 _ _ row5
    have H6 := hid (H5.out.drops (dr + 1))
    have HK6 := hid (HK5.out.setCell (p := ⟨b, 4, none⟩) (.inl (.inl rfl)) (.int .i64 ((dr + 1 : Nat) : Int)))
    have HQ6 : Hid (((w5.setCell ⟨b, 1, none⟩ (.slice a5 m5 c5)).setCell ⟨b, 4, none⟩ (.int .i64 ((dr + 1 : Nat) : Int))).heap[w.heap.size + 1]? = some (.cells #[.int .i64 ((dr : Int) + (ln : Int)), .int .i64 t, .int .i64 c, .int .i64 o, .int .i64 e, .int .i64 n, .int .i64 m, .int .i64 x, .int .i64 y, .int .i64 z] 42 (0, 0))) := hid ((Below.heap_setCell _ _ _ _ (fun e => QB e)).trans HQ5.out)
    clear o5 ob5 k5 d1 e5 hm5 hm6 row5 H5a H5 HK5 HQ5
    go_wp2_with fail
    obtain ⟨V6, hV6⟩ : ∃ V, (w5.setCell ⟨b, 1, none⟩ (.slice a5 m5 c5)).setCell ⟨b, 4, none⟩ (.int .i64 ((dr + 1 : Nat) : Int)) = V := ⟨_, rfl⟩
    rw [hV6] at H6 HK6 HQ6
    rw [show ((dr + 1 : Nat) : Int) = (dr : Int) + 1 from by omega] at hV6
    rw [hV6]
    have HL : Hid (LogAt V6 b (.slice a5 m5 c5) (cutL L)) := hid (by have h := H6.out; unfold cutL; rw [HQ0.out, HDR.out]; exact h)
    have HQ := HQ6
    have KK := HK6
    have HLEN : Hid ((cutL L).l.length = m5) := hid HM5.out
    have m5b : m5 ≤ 1000 := by have := HM6.out; omega
    have WB0 : Hid (b < w.heap.size) := hid WB
    have NQ : Hid (¬ (Value.slice a5 m5 c5).ownBlock = some (w.heap.size + 1)) := hid (by rw [OB5.out]; exact fun e => gq (Option.some.inj e))
    have VO : Hid (∀ k, (Value.slice a5 m5 c5).ownBlock = some k → (Value.slice (some ⟨g, 0, none⟩) ln c0).ownBlock = some k ∨ w.heap.size ≤ k) := hid (fun k hk => .inl (by rw [← OB5.out]; exact hk))
    clear hV6 H6 HQ6 HK6 HQ4 HK4 H4 t1 t4 f5 f54 OB5 HM5 RB5 N5 lni ln3 ln4 ln5 HBe HBd gq ln1 ln2
    have HD := hid (HL.out.keep ((Keep.refl (fun _ => False) _).drew) (fun h => h) (fun _ _ h => h))
    have rq : ∀ j, (V6).drew.cell? ⟨w.heap.size + 1, j, none⟩ = (#[.int .i64 ((dr : Int) + (ln : Int)), .int .i64 t, .int .i64 c, .int .i64 o, .int .i64 e, .int .i64 n, .int .i64 m, .int .i64 x, .int .i64 y, .int .i64 z] : Array Value)[j]? := fun j => by rw [World.cell?_drew]; exact cell_of_row _ _ j _ _ _ HQ.out
    have l1 := HD.out.c1
    refine wp_region_text [0,0,0,0,0,0,2,2,0,0,3] (fun W => W.cell? ⟨b, 1, none⟩ = some (.slice a5 m5 c5) ∧ W.cell? ⟨w.heap.size + 1, 0, none⟩ = some (.int .i64 ((dr : Int) + (ln : Int))) ∧ W.cell? ⟨w.heap.size + 1, 1, none⟩ = some (.int .i64 t) ∧ W.cell? ⟨w.heap.size + 1, 2, none⟩ = some (.int .i64 c) ∧ W.cell? ⟨w.heap.size + 1, 3, none⟩ = some (.int .i64 o) ∧ W.cell? ⟨w.heap.size + 1, 4, none⟩ = some (.int .i64 e) ∧ W.cell? ⟨w.heap.size + 1, 5, none⟩ = some (.int .i64 n) ∧ W.cell? ⟨w.heap.size + 1, 6, none⟩ = some (.int .i64 m) ∧ W.cell? ⟨w.heap.size + 1, 7, none⟩ = some (.int .i64 x) ∧ W.cell? ⟨w.heap.size + 1, 8, none⟩ = some (.int .i64 y) ∧ W.cell? ⟨w.heap.size + 1, 9, none⟩ = some (.int .i64 z)) (by kernel_rfl) (by kernel_rfl) ⟨l1, rq 0, rq 1, rq 2, rq 3, rq 4, rq 5, rq 6, rq 7, rq 8, rq 9⟩ ?_
    have KD : Keep (fun k => k = b ∨ (Value.slice (some ⟨g, 0, none⟩) ln c0).ownBlock = some k) w (V6).drew := KK.out.drew
    have hqs : (V6).drew.heap.size = (V6).heap.size := rfl
    have qlt : w.heap.size + 1 < (V6).drew.heap.size := lt_of_heap HQ.out
    obtain ⟨D, hD⟩ : ∃ D, (V6).drew = D := ⟨_, rfl⟩
    rw [hD] at HD rq l1 KD qlt ⊢
    clear hD hqs
    have HKD := hid KD
    have HRQ := hid rq
    have QLT := hid qlt
    clear KD rq
    repeat (first
      | (refine' wpT_calm (v := _) (by rfl) (fun W hW => ?_) ?_; rotate_left
         · ((try dsimp only at hW); go_simp; first | done | rfl)
         simp only [Act.put, List.setIfInBounds_toArray, List.set_cons_zero, List.set_cons_succ])
      | (refine' wpT_reads (v := _) (by rfl) ?_ ?_; rotate_left
         · (go_simp; first | done | rfl)
         simp only [Act.put, List.setIfInBounds_toArray, List.set_cons_zero, List.set_cons_succ])
      | (refine wpT_skip (by rfl) rfl ?_; simp only [Act.put, List.setIfInBounds_toArray, List.set_cons_zero, List.set_cons_succ])
      | (refine wpT_does (by rfl) (fun K hK => ?_); go_simp; refine hK _ _ ?_ ?_
         · (trivial)
         clear hK K; try simp only [Act.put, List.setIfInBounds_toArray, List.set_cons_zero, List.set_cons_succ])
      | (refine wpT_last (by rfl) (fun K hK => ?_); go_simp; refine hK _ _ ?_; clear hK K)
      | (refine wpT_nil ?_))
    refine wpT_does (by rfl) (fun K hK => ?_)
    go_simp
    have KA : Keep (fun _ => False) D (D.alloc (.cells #[.int .i64 ((dr : Int) + (ln : Int)), .int .i64 t, .int .i64 c, .int .i64 o, .int .i64 e, .int .i64 n, .int .i64 m, .int .i64 x, .int .i64 y, .int .i64 z] 42)) := (Keep.refl _ _).alloc _
    have hsz : (D.alloc (.cells #[.int .i64 ((dr : Int) + (ln : Int)), .int .i64 t, .int .i64 c, .int .i64 o, .int .i64 e, .int .i64 n, .int .i64 m, .int .i64 x, .int .i64 y, .int .i64 z] 42)).heap.size = D.heap.size + 1 := World.size_alloc _ _
    have hown := HD.out.own.keep KA (fun _ _ h => h)
    have hsrc := one_srcR D (⟨(dr : Int) + (ln : Int), t, c, o, e, n, m, x, y, z⟩ : Rc)
    have l2 := (KA.cell (p := ⟨b, 1, none⟩) HD.out.lt (fun h => h)).trans HD.out.c1
    have rq2 : ∀ j, (D.alloc (.cells #[.int .i64 ((dr : Int) + (ln : Int)), .int .i64 t, .int .i64 c, .int .i64 o, .int .i64 e, .int .i64 n, .int .i64 m, .int .i64 x, .int .i64 y, .int .i64 z] 42)).cell? ⟨w.heap.size + 1, j, none⟩ = (#[.int .i64 ((dr : Int) + (ln : Int)), .int .i64 t, .int .i64 c, .int .i64 o, .int .i64 e, .int .i64 n, .int .i64 m, .int .i64 x, .int .i64 y, .int .i64 z] : Array Value)[j]? := fun j => (KA.cell (p := ⟨w.heap.size + 1, j, none⟩) QLT.out (fun h => h)).trans (HRQ.out j)
    refine hK _ _ ⟨l2, rq2 0, rq2 1, rq2 2, rq2 3, rq2 4, rq2 5, rq2 6, rq2 7, rq2 8, rq2 9⟩ ?_
    clear hK K l1
    try simp only [Act.put, List.setIfInBounds_toArray, List.set_cons_zero, List.set_cons_succ]
    refine wpT_does (by rfl) (fun K hK => ?_)
    refine wp_append_recs _ (.tmp 71) (.tmp 73) rfl (.slice a5 m5 c5) ((cutL L)).l rfl hown _ 1 [(⟨(dr : Int) + (ln : Int), t, c, o, e, n, m, x, y, z⟩ : Rc)] rfl hsrc (by rw [HLEN.out]; omega) ?_
    intro v1 w1 o1 f1 k1
    have e1 : (((cutL L)).l ++ [(⟨(dr : Int) + (ln : Int), t, c, o, e, n, m, x, y, z⟩ : Rc)]).length = m5 + 1 := by rw [List.length_append, HLEN.out]; rfl
    have O1 := hid o1
    obtain ⟨a1, c1, hv1⟩ := o1.form
    rw [e1] at hv1
    subst hv1
    have nb : ¬ (Value.slice a5 m5 c5).ownBlock = some b := HD.out.ne
    have nq : ¬ (Value.slice a5 m5 c5).ownBlock = some (w.heap.size + 1) := NQ.out
    have KB : Keep (fun k => (Value.slice a5 m5 c5).ownBlock = some k) D w1 := (KA.mono fun _ _ h => h.elim).trans k1
    have RB := hid (KB.block b HD.out.lt nb)
    have F1 : Hid (∀ k, (Value.slice a1 (m5 + 1) c1).ownBlock = some k → (Value.slice a5 m5 c5).ownBlock = some k ∨ D.heap.size ≤ k) := hid (fun k hk => (f1 k hk).elim .inl (fun h => .inr (by rw [hsz] at h; omega)))
    have N1 : (Value.slice a1 (m5 + 1) c1).ownBlock ≠ some b := fun e => (F1.out b e).elim nb (fun h => by have := HD.out.lt; omega)
    have f3 : w1.frozen? ⟨b, 1, none⟩ = false := frozen_of_row w1 b 1 _ _ (RB.out.trans HD.out.row)
    have l3 := (k1.cell (p := ⟨b, 1, none⟩) (by rw [hsz]; exact Nat.lt_succ_of_lt HD.out.lt) nb).trans l2
    have rq3 : ∀ j, w1.cell? ⟨w.heap.size + 1, j, none⟩ = (#[.int .i64 ((dr : Int) + (ln : Int)), .int .i64 t, .int .i64 c, .int .i64 o, .int .i64 e, .int .i64 n, .int .i64 m, .int .i64 x, .int .i64 y, .int .i64 z] : Array Value)[j]? := fun j => (k1.cell (p := ⟨w.heap.size + 1, j, none⟩) (by rw [hsz]; exact Nat.lt_succ_of_lt QLT.out) nq).trans (rq2 j)
    have HLl := hid (HD.out.listOf RB.out O1.out N1)
    have KC := hid ((HKD.out.then KB (fun k hk => (VO.out k hk).imp (fun h => .inr h) (fun h => h))))
    have RQ3 := hid rq3
    have KBs := hid KB.size
    refine hK _ _ ⟨l3, rq3 0, rq3 1, rq3 2, rq3 3, rq3 4, rq3 5, rq3 6, rq3 7, rq3 8, rq3 9⟩ ?_
    clear hK K o1 f1 k1 KA hsz hown hsrc rq2 l2 rq3 KB nb nq e1
    try simp only [Act.put, List.setIfInBounds_toArray, List.set_cons_zero, List.set_cons_succ]
    repeat (first
      | (refine' wpT_calm (v := _) (by rfl) (fun W hW => ?_) ?_; rotate_left
         · ((try dsimp only at hW); go_simp; first | done | rfl)
         simp only [Act.put, List.setIfInBounds_toArray, List.set_cons_zero, List.set_cons_succ])
      | (refine' wpT_reads (v := _) (by rfl) ?_ ?_; rotate_left
         · (go_simp; first | done | rfl)
         simp only [Act.put, List.setIfInBounds_toArray, List.set_cons_zero, List.set_cons_succ])
      | (refine wpT_skip (by rfl) rfl ?_; simp only [Act.put, List.setIfInBounds_toArray, List.set_cons_zero, List.set_cons_succ])
      | (refine wpT_does (by rfl) (fun K hK => ?_); go_simp; refine hK _ _ ?_ ?_
         · (trivial)
         clear hK K; try simp only [Act.put, List.setIfInBounds_toArray, List.set_cons_zero, List.set_cons_succ])
      | (refine wpT_last (by rfl) (fun K hK => ?_); go_simp; refine hK _ _ ?_; clear hK K)
      | (refine wpT_nil ?_))
    have KE := hid (KC.out.setCell (p := ⟨b, 1, none⟩) (.inl (.inl rfl)) (.slice a1 (m5 + 1) c1))
    have F2 : Hid (∀ k, (Value.slice a1 (m5 + 1) c1).ownBlock = some k → (Value.slice (some ⟨g, 0, none⟩) ln c0).ownBlock = some k ∨ w.heap.size ≤ k) := hid (fun k hk => (F1.out k hk).elim (VO.out k) (fun h => .inr (by have := HKD.out.size; omega)))
    have RQ4 : Hid (∀ j, (w1.setCell ⟨b, 1, none⟩ (.slice a1 (m5 + 1) c1)).cell? ⟨w.heap.size + 1, j, none⟩ = (#[.int .i64 ((dr : Int) + (ln : Int)), .int .i64 t, .int .i64 c, .int .i64 o, .int .i64 e, .int .i64 n, .int .i64 m, .int .i64 x, .int .i64 y, .int .i64 z] : Array Value)[j]?) := hid (fun j => (World.cell?_setCell_other _ _ _ _ (by first | (simp; done) | (simp; have := WB0.out; omega))).trans (RQ3.out j))
    clear N1 f3 F1 KC RQ3 HRQ l3
    obtain ⟨V, hV⟩ : ∃ V, w1.setCell ⟨b, 1, none⟩ (.slice a1 (m5 + 1) c1) = V := ⟨_, rfl⟩
    rw [hV] at HLl KE RQ4 ⊢
    clear hV
    go_wp2_with fail
    have HLe := hid (HLl.out.keep ((Keep.refl (fun _ => False) _).drew) (fun h => h) (fun _ _ h => h))
    have h3 := HLe.out.c3
    have rq5 : ∀ j, V.drew.cell? ⟨w.heap.size + 1, j, none⟩ = (#[.int .i64 ((dr : Int) + (ln : Int)), .int .i64 t, .int .i64 c, .int .i64 o, .int .i64 e, .int .i64 n, .int .i64 m, .int .i64 x, .int .i64 y, .int .i64 z] : Array Value)[j]? := fun j => (World.cell?_drew V _).trans (RQ4.out j)
    refine wp_region_text [0,0,0,0,0,0,2,0,0,3] (fun W => W.cell? ⟨b, 3, none⟩ = some (.string (bya ((cutL L)).head)) ∧ W.cell? ⟨w.heap.size + 1, 0, none⟩ = some (.int .i64 ((dr : Int) + (ln : Int))) ∧ W.cell? ⟨w.heap.size + 1, 1, none⟩ = some (.int .i64 t) ∧ W.cell? ⟨w.heap.size + 1, 2, none⟩ = some (.int .i64 c) ∧ W.cell? ⟨w.heap.size + 1, 3, none⟩ = some (.int .i64 o) ∧ W.cell? ⟨w.heap.size + 1, 4, none⟩ = some (.int .i64 e) ∧ W.cell? ⟨w.heap.size + 1, 5, none⟩ = some (.int .i64 n) ∧ W.cell? ⟨w.heap.size + 1, 6, none⟩ = some (.int .i64 m) ∧ W.cell? ⟨w.heap.size + 1, 7, none⟩ = some (.int .i64 x) ∧ W.cell? ⟨w.heap.size + 1, 8, none⟩ = some (.int .i64 y) ∧ W.cell? ⟨w.heap.size + 1, 9, none⟩ = some (.int .i64 z)) (by kernel_rfl) (by kernel_rfl) ⟨h3, rq5 0, rq5 1, rq5 2, rq5 3, rq5 4, rq5 5, rq5 6, rq5 7, rq5 8, rq5 9⟩ ?_
    repeat (first
      | (refine' wpT_calm (v := _) (by rfl) (fun W hW => ?_) ?_; rotate_left
         · ((try dsimp only at hW); go_simp; first | done | rfl)
         simp only [Act.put, List.setIfInBounds_toArray, List.set_cons_zero, List.set_cons_succ])
      | (refine' wpT_reads (v := _) (by rfl) ?_ ?_; rotate_left
         · (go_simp; first | done | rfl)
         simp only [Act.put, List.setIfInBounds_toArray, List.set_cons_zero, List.set_cons_succ])
      | (refine wpT_skip (by rfl) rfl ?_; simp only [Act.put, List.setIfInBounds_toArray, List.set_cons_zero, List.set_cons_succ])
      | (refine wpT_does (by rfl) (fun K hK => ?_); go_simp; refine hK _ _ ?_ ?_
         · (trivial)
         clear hK K; try simp only [Act.put, List.setIfInBounds_toArray, List.set_cons_zero, List.set_cons_succ])
      | (refine wpT_last (by rfl) (fun K hK => ?_); go_simp; refine hK _ _ ?_; clear hK K)
      | (refine wpT_nil ?_))
    refine wpT_does (by rfl) (fun K hK => ?_)
    go_simp
    refine (chain_any ((cutL L)).head (by have h1 := HLe.out.hl; have h2 : ((cutL L)).head.length = 32 := h1; omega) (⟨(dr : Int) + (ln : Int), t, c, o, e, n, m, x, y, z⟩ : Rc) _).mono ?_
    rintro _ w5 ⟨rfl, k5⟩
    have H5 := hid (HLe.out.keep k5 (fun h => h) (fun _ _ h => h))
    have K5 := hid (KE.out.drew.trans (k5.mono fun _ _ h => h.elim))
    have rq6 : ∀ j, (h : j < 10) → w5.cell? ⟨w.heap.size + 1, j, none⟩ = (#[.int .i64 ((dr : Int) + (ln : Int)), .int .i64 t, .int .i64 c, .int .i64 o, .int .i64 e, .int .i64 n, .int .i64 m, .int .i64 x, .int .i64 y, .int .i64 z] : Array Value)[j]? := fun j h => (k5.cell (p := ⟨w.heap.size + 1, j, none⟩) (by have := World.block_lt_of_cell? _ _ ((rq5 0).trans rfl); exact this) (fun h => h)).trans (rq5 j)
    have h4 := H5.out.c3
    have f4 := H5.out.fro 3
    refine hK _ _ ⟨h4, rq6 0 (by omega), rq6 1 (by omega), rq6 2 (by omega), rq6 3 (by omega), rq6 4 (by omega), rq6 5 (by omega), rq6 6 (by omega), rq6 7 (by omega), rq6 8 (by omega), rq6 9 (by omega)⟩ ?_
    clear hK K rq5 rq6 h3 k5
    try simp only [Act.put, List.setIfInBounds_toArray, List.set_cons_zero, List.set_cons_succ]
    rw [bstr_eq]
    repeat (first
      | (refine' wpT_calm (v := _) (by rfl) (fun W hW => ?_) ?_; rotate_left
         · ((try dsimp only at hW); go_simp; first | done | rfl)
         simp only [Act.put, List.setIfInBounds_toArray, List.set_cons_zero, List.set_cons_succ])
      | (refine' wpT_reads (v := _) (by rfl) ?_ ?_; rotate_left
         · (go_simp; first | done | rfl)
         simp only [Act.put, List.setIfInBounds_toArray, List.set_cons_zero, List.set_cons_succ])
      | (refine wpT_skip (by rfl) rfl ?_; simp only [Act.put, List.setIfInBounds_toArray, List.set_cons_zero, List.set_cons_succ])
      | (refine wpT_does (by rfl) (fun K hK => ?_); go_simp; refine hK _ _ ?_ ?_
         · (trivial)
         clear hK K; try simp only [Act.put, List.setIfInBounds_toArray, List.set_cons_zero, List.set_cons_succ])
      | (refine wpT_last (by rfl) (fun K hK => ?_); go_simp; refine hK _ _ ?_; clear hK K)
      | (refine wpT_nil ?_))
    have h9 : (chn ((cutL L)).head (⟨(dr : Int) + (ln : Int), t, c, o, e, n, m, x, y, z⟩ : Rc)).length = 32 := chn_len _ _
    have HF := hid (H5.out.heads _ h9)
    have K9 := hid (K5.out.setCell (p := ⟨b, 3, none⟩) (.inl (.inl rfl)) (.string (bya (chn ((cutL L)).head (⟨(dr : Int) + (ln : Int), t, c, o, e, n, m, x, y, z⟩ : Rc)))))
    go_wp2_with fail
    go_end0
    rw [show (dr : Int) + L.ring = (dr : Int) + (ln : Int) from by rw [HFU.out]]
    refine ⟨rfl, _, ?_, F2.out, K9.out⟩
    try rw [if_pos HFU.out]
    exact HF.out
  · have hq : ((ln : Int) == L.ring) = false := by simp [hfull]
    have HL := HBd
    have HQ : Hid (W2.drew.heap[w.heap.size + 1]? = some (.cells #[.int .i64 ((dr : Int) + (ln : Int)), .int .i64 t, .int .i64 c, .int .i64 o, .int .i64 e, .int .i64 n, .int .i64 m, .int .i64 x, .int .i64 y, .int .i64 z] 42 (0, 0))) := hid HR2.out
    have KK : Hid (Keep (fun k => k = b ∨ (Value.slice a0 ln c0).ownBlock = some k) w W2.drew) := hid ((HK2.out.mono fun _ _ h => h.elim).drew)
    have HLEN := HLN
    have WB0 : Hid (b < w.heap.size) := hid WB
    have NQ : Hid (¬ (Value.slice a0 ln c0).ownBlock = some (w.heap.size + 1)) := hid (fun e => by have := (H.out.own.lt _ e).2; omega)
    have VO : Hid (∀ k, (Value.slice a0 ln c0).ownBlock = some k → (Value.slice a0 ln c0).ownBlock = some k ∨ w.heap.size ≤ k) := hid (fun k hk => .inl hk)
    go_wp2_with fail
    have HD := hid (HL.out.keep ((Keep.refl (fun _ => False) _).drew) (fun h => h) (fun _ _ h => h))
    have rq : ∀ j, (W2.drew).drew.cell? ⟨w.heap.size + 1, j, none⟩ = (#[.int .i64 ((dr : Int) + (ln : Int)), .int .i64 t, .int .i64 c, .int .i64 o, .int .i64 e, .int .i64 n, .int .i64 m, .int .i64 x, .int .i64 y, .int .i64 z] : Array Value)[j]? := fun j => by rw [World.cell?_drew]; exact cell_of_row _ _ j _ _ _ HQ.out
    have l1 := HD.out.c1
    refine wp_region_text [0,0,0,0,0,0,2,2,0,0,3] (fun W => W.cell? ⟨b, 1, none⟩ = some (.slice a0 ln c0) ∧ W.cell? ⟨w.heap.size + 1, 0, none⟩ = some (.int .i64 ((dr : Int) + (ln : Int))) ∧ W.cell? ⟨w.heap.size + 1, 1, none⟩ = some (.int .i64 t) ∧ W.cell? ⟨w.heap.size + 1, 2, none⟩ = some (.int .i64 c) ∧ W.cell? ⟨w.heap.size + 1, 3, none⟩ = some (.int .i64 o) ∧ W.cell? ⟨w.heap.size + 1, 4, none⟩ = some (.int .i64 e) ∧ W.cell? ⟨w.heap.size + 1, 5, none⟩ = some (.int .i64 n) ∧ W.cell? ⟨w.heap.size + 1, 6, none⟩ = some (.int .i64 m) ∧ W.cell? ⟨w.heap.size + 1, 7, none⟩ = some (.int .i64 x) ∧ W.cell? ⟨w.heap.size + 1, 8, none⟩ = some (.int .i64 y) ∧ W.cell? ⟨w.heap.size + 1, 9, none⟩ = some (.int .i64 z)) (by kernel_rfl) (by kernel_rfl) ⟨l1, rq 0, rq 1, rq 2, rq 3, rq 4, rq 5, rq 6, rq 7, rq 8, rq 9⟩ ?_
    have KD : Keep (fun k => k = b ∨ (Value.slice a0 ln c0).ownBlock = some k) w (W2.drew).drew := KK.out.drew
    have hqs : (W2.drew).drew.heap.size = (W2.drew).heap.size := rfl
    have qlt : w.heap.size + 1 < (W2.drew).drew.heap.size := lt_of_heap HQ.out
    obtain ⟨D, hD⟩ : ∃ D, (W2.drew).drew = D := ⟨_, rfl⟩
    rw [hD] at HD rq l1 KD qlt ⊢
    clear hD hqs
    have HKD := hid KD
    have HRQ := hid rq
    have QLT := hid qlt
    clear KD rq
    repeat (first
      | (refine' wpT_calm (v := _) (by rfl) (fun W hW => ?_) ?_; rotate_left
         · ((try dsimp only at hW); go_simp; first | done | rfl)
         simp only [Act.put, List.setIfInBounds_toArray, List.set_cons_zero, List.set_cons_succ])
      | (refine' wpT_reads (v := _) (by rfl) ?_ ?_; rotate_left
         · (go_simp; first | done | rfl)
         simp only [Act.put, List.setIfInBounds_toArray, List.set_cons_zero, List.set_cons_succ])
      | (refine wpT_skip (by rfl) rfl ?_; simp only [Act.put, List.setIfInBounds_toArray, List.set_cons_zero, List.set_cons_succ])
      | (refine wpT_does (by rfl) (fun K hK => ?_); go_simp; refine hK _ _ ?_ ?_
         · (trivial)
         clear hK K; try simp only [Act.put, List.setIfInBounds_toArray, List.set_cons_zero, List.set_cons_succ])
      | (refine wpT_last (by rfl) (fun K hK => ?_); go_simp; refine hK _ _ ?_; clear hK K)
      | (refine wpT_nil ?_))
    refine wpT_does (by rfl) (fun K hK => ?_)
    go_simp
    have KA : Keep (fun _ => False) D (D.alloc (.cells #[.int .i64 ((dr : Int) + (ln : Int)), .int .i64 t, .int .i64 c, .int .i64 o, .int .i64 e, .int .i64 n, .int .i64 m, .int .i64 x, .int .i64 y, .int .i64 z] 42)) := (Keep.refl _ _).alloc _
    have hsz : (D.alloc (.cells #[.int .i64 ((dr : Int) + (ln : Int)), .int .i64 t, .int .i64 c, .int .i64 o, .int .i64 e, .int .i64 n, .int .i64 m, .int .i64 x, .int .i64 y, .int .i64 z] 42)).heap.size = D.heap.size + 1 := World.size_alloc _ _
    have hown := HD.out.own.keep KA (fun _ _ h => h)
    have hsrc := one_srcR D (⟨(dr : Int) + (ln : Int), t, c, o, e, n, m, x, y, z⟩ : Rc)
    have l2 := (KA.cell (p := ⟨b, 1, none⟩) HD.out.lt (fun h => h)).trans HD.out.c1
    have rq2 : ∀ j, (D.alloc (.cells #[.int .i64 ((dr : Int) + (ln : Int)), .int .i64 t, .int .i64 c, .int .i64 o, .int .i64 e, .int .i64 n, .int .i64 m, .int .i64 x, .int .i64 y, .int .i64 z] 42)).cell? ⟨w.heap.size + 1, j, none⟩ = (#[.int .i64 ((dr : Int) + (ln : Int)), .int .i64 t, .int .i64 c, .int .i64 o, .int .i64 e, .int .i64 n, .int .i64 m, .int .i64 x, .int .i64 y, .int .i64 z] : Array Value)[j]? := fun j => (KA.cell (p := ⟨w.heap.size + 1, j, none⟩) QLT.out (fun h => h)).trans (HRQ.out j)
    refine hK _ _ ⟨l2, rq2 0, rq2 1, rq2 2, rq2 3, rq2 4, rq2 5, rq2 6, rq2 7, rq2 8, rq2 9⟩ ?_
    clear hK K l1
    try simp only [Act.put, List.setIfInBounds_toArray, List.set_cons_zero, List.set_cons_succ]
    refine wpT_does (by rfl) (fun K hK => ?_)
    refine wp_append_recs _ (.tmp 71) (.tmp 73) rfl (.slice a0 ln c0) (L).l rfl hown _ 1 [(⟨(dr : Int) + (ln : Int), t, c, o, e, n, m, x, y, z⟩ : Rc)] rfl hsrc (by rw [HLEN.out]; omega) ?_
    intro v1 w1 o1 f1 k1
    have e1 : ((L).l ++ [(⟨(dr : Int) + (ln : Int), t, c, o, e, n, m, x, y, z⟩ : Rc)]).length = ln + 1 := by rw [List.length_append, HLEN.out]; rfl
    have O1 := hid o1
    obtain ⟨a1, c1, hv1⟩ := o1.form
    rw [e1] at hv1
    subst hv1
    have nb : ¬ (Value.slice a0 ln c0).ownBlock = some b := HD.out.ne
    have nq : ¬ (Value.slice a0 ln c0).ownBlock = some (w.heap.size + 1) := NQ.out
    have KB : Keep (fun k => (Value.slice a0 ln c0).ownBlock = some k) D w1 := (KA.mono fun _ _ h => h.elim).trans k1
    have RB := hid (KB.block b HD.out.lt nb)
    have F1 : Hid (∀ k, (Value.slice a1 (ln + 1) c1).ownBlock = some k → (Value.slice a0 ln c0).ownBlock = some k ∨ D.heap.size ≤ k) := hid (fun k hk => (f1 k hk).elim .inl (fun h => .inr (by rw [hsz] at h; omega)))
    have N1 : (Value.slice a1 (ln + 1) c1).ownBlock ≠ some b := fun e => (F1.out b e).elim nb (fun h => by have := HD.out.lt; omega)
    have f3 : w1.frozen? ⟨b, 1, none⟩ = false := frozen_of_row w1 b 1 _ _ (RB.out.trans HD.out.row)
    have l3 := (k1.cell (p := ⟨b, 1, none⟩) (by rw [hsz]; exact Nat.lt_succ_of_lt HD.out.lt) nb).trans l2
    have rq3 : ∀ j, w1.cell? ⟨w.heap.size + 1, j, none⟩ = (#[.int .i64 ((dr : Int) + (ln : Int)), .int .i64 t, .int .i64 c, .int .i64 o, .int .i64 e, .int .i64 n, .int .i64 m, .int .i64 x, .int .i64 y, .int .i64 z] : Array Value)[j]? := fun j => (k1.cell (p := ⟨w.heap.size + 1, j, none⟩) (by rw [hsz]; exact Nat.lt_succ_of_lt QLT.out) nq).trans (rq2 j)
    have HLl := hid (HD.out.listOf RB.out O1.out N1)
    have KC := hid ((HKD.out.then KB (fun k hk => (VO.out k hk).imp (fun h => .inr h) (fun h => h))))
    have RQ3 := hid rq3
    have KBs := hid KB.size
    refine hK _ _ ⟨l3, rq3 0, rq3 1, rq3 2, rq3 3, rq3 4, rq3 5, rq3 6, rq3 7, rq3 8, rq3 9⟩ ?_
    clear hK K o1 f1 k1 KA hsz hown hsrc rq2 l2 rq3 KB nb nq e1
    try simp only [Act.put, List.setIfInBounds_toArray, List.set_cons_zero, List.set_cons_succ]
    repeat (first
      | (refine' wpT_calm (v := _) (by rfl) (fun W hW => ?_) ?_; rotate_left
         · ((try dsimp only at hW); go_simp; first | done | rfl)
         simp only [Act.put, List.setIfInBounds_toArray, List.set_cons_zero, List.set_cons_succ])
      | (refine' wpT_reads (v := _) (by rfl) ?_ ?_; rotate_left
         · (go_simp; first | done | rfl)
         simp only [Act.put, List.setIfInBounds_toArray, List.set_cons_zero, List.set_cons_succ])
      | (refine wpT_skip (by rfl) rfl ?_; simp only [Act.put, List.setIfInBounds_toArray, List.set_cons_zero, List.set_cons_succ])
      | (refine wpT_does (by rfl) (fun K hK => ?_); go_simp; refine hK _ _ ?_ ?_
         · (trivial)
         clear hK K; try simp only [Act.put, List.setIfInBounds_toArray, List.set_cons_zero, List.set_cons_succ])
      | (refine wpT_last (by rfl) (fun K hK => ?_); go_simp; refine hK _ _ ?_; clear hK K)
      | (refine wpT_nil ?_))
    have KE := hid (KC.out.setCell (p := ⟨b, 1, none⟩) (.inl (.inl rfl)) (.slice a1 (ln + 1) c1))
    have F2 : Hid (∀ k, (Value.slice a1 (ln + 1) c1).ownBlock = some k → (Value.slice a0 ln c0).ownBlock = some k ∨ w.heap.size ≤ k) := hid (fun k hk => (F1.out k hk).elim (VO.out k) (fun h => .inr (by have := HKD.out.size; omega)))
    have RQ4 : Hid (∀ j, (w1.setCell ⟨b, 1, none⟩ (.slice a1 (ln + 1) c1)).cell? ⟨w.heap.size + 1, j, none⟩ = (#[.int .i64 ((dr : Int) + (ln : Int)), .int .i64 t, .int .i64 c, .int .i64 o, .int .i64 e, .int .i64 n, .int .i64 m, .int .i64 x, .int .i64 y, .int .i64 z] : Array Value)[j]?) := hid (fun j => (World.cell?_setCell_other _ _ _ _ (by first | (simp; done) | (simp; have := WB0.out; omega))).trans (RQ3.out j))
    clear N1 f3 F1 KC RQ3 HRQ l3
    obtain ⟨V, hV⟩ : ∃ V, w1.setCell ⟨b, 1, none⟩ (.slice a1 (ln + 1) c1) = V := ⟨_, rfl⟩
    rw [hV] at HLl KE RQ4 ⊢
    clear hV
    go_wp2_with fail
    have HLe := hid (HLl.out.keep ((Keep.refl (fun _ => False) _).drew) (fun h => h) (fun _ _ h => h))
    have h3 := HLe.out.c3
    have rq5 : ∀ j, V.drew.cell? ⟨w.heap.size + 1, j, none⟩ = (#[.int .i64 ((dr : Int) + (ln : Int)), .int .i64 t, .int .i64 c, .int .i64 o, .int .i64 e, .int .i64 n, .int .i64 m, .int .i64 x, .int .i64 y, .int .i64 z] : Array Value)[j]? := fun j => (World.cell?_drew V _).trans (RQ4.out j)
    refine wp_region_text [0,0,0,0,0,0,2,0,0,3] (fun W => W.cell? ⟨b, 3, none⟩ = some (.string (bya (L).head)) ∧ W.cell? ⟨w.heap.size + 1, 0, none⟩ = some (.int .i64 ((dr : Int) + (ln : Int))) ∧ W.cell? ⟨w.heap.size + 1, 1, none⟩ = some (.int .i64 t) ∧ W.cell? ⟨w.heap.size + 1, 2, none⟩ = some (.int .i64 c) ∧ W.cell? ⟨w.heap.size + 1, 3, none⟩ = some (.int .i64 o) ∧ W.cell? ⟨w.heap.size + 1, 4, none⟩ = some (.int .i64 e) ∧ W.cell? ⟨w.heap.size + 1, 5, none⟩ = some (.int .i64 n) ∧ W.cell? ⟨w.heap.size + 1, 6, none⟩ = some (.int .i64 m) ∧ W.cell? ⟨w.heap.size + 1, 7, none⟩ = some (.int .i64 x) ∧ W.cell? ⟨w.heap.size + 1, 8, none⟩ = some (.int .i64 y) ∧ W.cell? ⟨w.heap.size + 1, 9, none⟩ = some (.int .i64 z)) (by kernel_rfl) (by kernel_rfl) ⟨h3, rq5 0, rq5 1, rq5 2, rq5 3, rq5 4, rq5 5, rq5 6, rq5 7, rq5 8, rq5 9⟩ ?_
    repeat (first
      | (refine' wpT_calm (v := _) (by rfl) (fun W hW => ?_) ?_; rotate_left
         · ((try dsimp only at hW); go_simp; first | done | rfl)
         simp only [Act.put, List.setIfInBounds_toArray, List.set_cons_zero, List.set_cons_succ])
      | (refine' wpT_reads (v := _) (by rfl) ?_ ?_; rotate_left
         · (go_simp; first | done | rfl)
         simp only [Act.put, List.setIfInBounds_toArray, List.set_cons_zero, List.set_cons_succ])
      | (refine wpT_skip (by rfl) rfl ?_; simp only [Act.put, List.setIfInBounds_toArray, List.set_cons_zero, List.set_cons_succ])
      | (refine wpT_does (by rfl) (fun K hK => ?_); go_simp; refine hK _ _ ?_ ?_
         · (trivial)
         clear hK K; try simp only [Act.put, List.setIfInBounds_toArray, List.set_cons_zero, List.set_cons_succ])
      | (refine wpT_last (by rfl) (fun K hK => ?_); go_simp; refine hK _ _ ?_; clear hK K)
      | (refine wpT_nil ?_))
    refine wpT_does (by rfl) (fun K hK => ?_)
    go_simp
    refine (chain_any (L).head (by have h1 := HLe.out.hl; have h2 : (L).head.length = 32 := h1; omega) (⟨(dr : Int) + (ln : Int), t, c, o, e, n, m, x, y, z⟩ : Rc) _).mono ?_
    rintro _ w5 ⟨rfl, k5⟩
    have H5 := hid (HLe.out.keep k5 (fun h => h) (fun _ _ h => h))
    have K5 := hid (KE.out.drew.trans (k5.mono fun _ _ h => h.elim))
    have rq6 : ∀ j, (h : j < 10) → w5.cell? ⟨w.heap.size + 1, j, none⟩ = (#[.int .i64 ((dr : Int) + (ln : Int)), .int .i64 t, .int .i64 c, .int .i64 o, .int .i64 e, .int .i64 n, .int .i64 m, .int .i64 x, .int .i64 y, .int .i64 z] : Array Value)[j]? := fun j h => (k5.cell (p := ⟨w.heap.size + 1, j, none⟩) (by have := World.block_lt_of_cell? _ _ ((rq5 0).trans rfl); exact this) (fun h => h)).trans (rq5 j)
    have h4 := H5.out.c3
    have f4 := H5.out.fro 3
    refine hK _ _ ⟨h4, rq6 0 (by omega), rq6 1 (by omega), rq6 2 (by omega), rq6 3 (by omega), rq6 4 (by omega), rq6 5 (by omega), rq6 6 (by omega), rq6 7 (by omega), rq6 8 (by omega), rq6 9 (by omega)⟩ ?_
    clear hK K rq5 rq6 h3 k5
    try simp only [Act.put, List.setIfInBounds_toArray, List.set_cons_zero, List.set_cons_succ]
    rw [bstr_eq]
    repeat (first
      | (refine' wpT_calm (v := _) (by rfl) (fun W hW => ?_) ?_; rotate_left
         · ((try dsimp only at hW); go_simp; first | done | rfl)
         simp only [Act.put, List.setIfInBounds_toArray, List.set_cons_zero, List.set_cons_succ])
      | (refine' wpT_reads (v := _) (by rfl) ?_ ?_; rotate_left
         · (go_simp; first | done | rfl)
         simp only [Act.put, List.setIfInBounds_toArray, List.set_cons_zero, List.set_cons_succ])
      | (refine wpT_skip (by rfl) rfl ?_; simp only [Act.put, List.setIfInBounds_toArray, List.set_cons_zero, List.set_cons_succ])
      | (refine wpT_does (by rfl) (fun K hK => ?_); go_simp; refine hK _ _ ?_ ?_
         · (trivial)
         clear hK K; try simp only [Act.put, List.setIfInBounds_toArray, List.set_cons_zero, List.set_cons_succ])
      | (refine wpT_last (by rfl) (fun K hK => ?_); go_simp; refine hK _ _ ?_; clear hK K)
      | (refine wpT_nil ?_))
    have h9 : (chn (L).head (⟨(dr : Int) + (ln : Int), t, c, o, e, n, m, x, y, z⟩ : Rc)).length = 32 := chn_len _ _
    have HF := hid (H5.out.heads _ h9)
    have K9 := hid (K5.out.setCell (p := ⟨b, 3, none⟩) (.inl (.inl rfl)) (.string (bya (chn (L).head (⟨(dr : Int) + (ln : Int), t, c, o, e, n, m, x, y, z⟩ : Rc)))))
    go_wp2_with fail
    go_end0
    refine ⟨rfl, _, ?_, F2.out, K9.out⟩
    try rw [if_neg hfull]
    exact HF.out
end Go.Proofs.Ytpijnpapmdnceaa
