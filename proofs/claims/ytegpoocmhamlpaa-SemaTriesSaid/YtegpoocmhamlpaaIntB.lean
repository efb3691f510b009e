/- slices.Delete of one element, on a list of the call's own. -/
import Derived.Test.YtegpoocmhamlpaaIntA
namespace Go.Proofs.Ytegpoocmhamlpaa
open Go Go.RowKit

theorem wp_append_in {P : Program} (w : World) {o : Oper} {a : Act} {K : Act → World → Prop} {Q : Exit → Act → World → Prop} (s x : Operand) (t : TypeId)
    (ho : o.op = .call { callee := .builtin .append, args := #[s, x], argTypes := #[t, t] })
    (e : TypeId) (i : TypeInfo) (ht : P.underlying t = some (.slice e)) (hi : P.info? e = some i) (size : Nat) (hsz : i.size = size)
    (g sLen sCap : Nat) (cur : Array Value) (hg : w.heap[g]? = some (.cells cur e (0, 0))) (hs : a.eval s = .slice (some ⟨g, 0, none⟩) sLen sCap)
    (ad : Addr) (m c : Nat) (news : List Value) (hx : a.eval x = .slice (some ad) m c) (hl : news.length = m * size) (hnews : ∀ j u, news[j]? = some u → w.cell? (ad.add j) = some u) (h1 : ∀ u ∈ news, u.oneCell' = true)
    (hroom : sLen + m ≤ sCap) (hfit : sLen * size + news.length ≤ cur.size)
    (h : K (a.put o.dst (.slice (some ⟨g, 0, none⟩) (sLen + m) sCap)) (w.setRow g (cur.toList.take (sLen * size) ++ news ++ cur.toList.drop (sLen * size + news.length)).toArray)) : o.wp P a w K Q := by
  subst hsz
  have hr := run_append_room (P := P) w t o.type e i ht hi g sLen sCap cur hg ad m c news hl hnews h1 hroom hfit
  unfold Oper.wp execOp
  simp only [ho, resolve, invoke, builtin, Sem.run_bind, Sem.run_pure, Result.andThen_ok, List.map_toArray, List.map_cons, List.map_nil, hs, hx, hr]
  exact h

theorem run_clear_one {P : Program} (w : World) (t ty e : TypeId) (i : TypeInfo) (ht : P.underlying t = some (.slice e)) (hi : P.info? e = some i) (z : Value) (hz : i.zero = some z)
    (g off c : Nat) (cur : Array Value) (hg : w.heap[g]? = some (.cells cur e (0, 0))) (hfit : off + (Builtin.zeroCells z.cells 1).toList.length ≤ cur.size) (h1 : ∀ u ∈ (Builtin.zeroCells z.cells 1).toList, u.oneCell' = true) :
    (Builtin.clear_ #[t] ty #[.slice (some ⟨g, off, none⟩) 1 c]).run P w = .ok (.tuple #[]) (w.setRow g (cur.toList.take off ++ (Builtin.zeroCells z.cells 1).toList ++ cur.toList.drop (off + (Builtin.zeroCells z.cells 1).toList.length)).toArray) := by
  have hst := run_storeCells_at P g off e (Builtin.zeroCells z.cells 1).toList 0 cur w hg (by simpa using hfit) h1
  simp only [Nat.add_zero] at hst
  simp [Builtin.clear_, run_underlying ht, zeroValue, typeInfo, hi, hz, hst]

theorem setRow_keep (w : World) (g : Nat) (cs : Array Value) : Keep (fun k => k = g) w (w.setRow g cs) :=
  ⟨rfl, rfl, rfl, by simp [World.setRow], fun k _ h => setRow_other w g k cs h⟩

set_option maxHeartbeats 400000 in
theorem delete_any {w : World} {v : Value} {l : List Int} (i : Nat) (x y : Int) (hx : x = (i : Int)) (hy : y = (i : Int) + 1) (hi : i < l.length) (h : OwnI w v l) :
    Calls Try.prog 62 #[v, .int .i64 x, .int .i64 y] w fun e w' => ∃ v', e = .returned v' ∧ OwnI w' v' (l.eraseIdx i) ∧ v'.ownBlock = v.ownBlock ∧ Keep (fun k => v.ownBlock = some k) w w' := by
  subst hx hy
  obtain ⟨hlen, ⟨rfl, h0⟩ | ⟨g, cap, cur, rfl, _, hg, hnc, hcm, hcs, htk⟩⟩ := h
  · rw [h0] at hi; exact absurd hi (Nat.not_lt_zero _)
  obtain ⟨i0, hi0, hz0, hz1, hz2⟩ := info_parts Try.infoI
  have hcm' : cap ≤ 9223372036854775807 := by unfold maxLen at hcm; omega
  have hcs : cur.size = cap := by rw [hcs]; omega
  rw [Nat.mul_one] at htk
  obtain ⟨n, hn⟩ : ∃ n, l.length = n + 1 := ⟨l.length - 1, by omega⟩
  rw [hn] at hi hnc htk hlen ⊢
  have e1 : ((i : Int) == (i : Int) + 1) = false := by simp; omega
  have b1 : (i : Int) + 1 ≤ (n : Int) + 1 := by omega
  have b2 : i + 1 ≤ n + 1 := by omega
  have b3 : (n : Int) + 1 ≤ (cap : Int) := by omega
  have b4 : (i : Int) ≤ (cap : Int) := by omega
  have b5 : (0 : Int) ≤ (i : Int) := by omega
  have b6 : (n : Int) ≤ (cap : Int) := by omega
  have b7 : (0 : Int) ≤ (n : Int) := by omega
  have b8 : ¬ cap = n := by omega
  have i1 : i0.size = 1 := hz1
  have HI := hid hi0
  have HZ := hid hz0
  have H1 := hid i1
  have HC := hid hcs
  have HT := hid htk
  have HG := hid hg
  have HN := hid hn
  clear hi0 hz0 hz1 hz2 i1 hcs htk hg hlen hcm hn
  go_enter Try.func62, Try.ntmps62
  go_wp2_with fail
  refine wp_region_text [0,0,0,0,0,0,2,0] (fun _ => True) (by kernel_rfl) (by kernel_rfl) trivial ?_
  repeat (first
    | (refine' wpT_calm (v := _) (by rfl) (fun W hW => ?_) ?_; rotate_left
       · ((try dsimp only at hW); go_simp; first | done | rfl)
       simp only [Act.put, List.setIfInBounds_toArray, List.set_cons_zero, List.set_cons_succ])
    | (refine' wpT_reads (v := _) (by rfl) ?_ ?_; rotate_left
       · (go_simp; first | done | rfl)
       simp only [Act.put, List.setIfInBounds_toArray, List.set_cons_zero, List.set_cons_succ])
    | (refine wpT_skip (by rfl) rfl ?_; simp only [Act.put, List.setIfInBounds_toArray, List.set_cons_zero, List.set_cons_succ])
    | (refine wpT_does (by rfl) (fun K hK => ?_); go_simp; refine hK _ _ ?_ ?_
       · (trivial)
       clear hK K; try simp only [Act.put, List.setIfInBounds_toArray, List.set_cons_zero, List.set_cons_succ])
    | (refine wpT_last (by rfl) (fun K hK => ?_); go_simp; refine hK _ _ ?_; clear hK K)
    | (refine wpT_nil ?_))
  refine wpT_does (by rfl) (fun K hK => ?_)
  have hxs : flat1 l = cur.toList.take (n + 1) := HT.out.symm
  have hnl : (flat1 l).length = n + 1 := by rw [flat1_length, HN.out]
  have hread : ∀ j u, (cur.toList.take (n + 1))[j]? = some u → w.cell? ⟨g, j, none⟩ = some u := fun j u hu => by
    rw [cell_of_row w g j cur 3 (0, 0) HG.out]
    rw [List.getElem?_take] at hu
    split at hu
    · simpa using hu
    · cases hu
  refine wp_append_in _ (.tmp 22) (.tmp 25) 27 rfl 3 i0 Try.underlying27 HI.out 1 H1.out g i cap cur HG.out rfl (if cap = i + 1 then ⟨g, 0, none⟩ else ⟨g, i + 1, none⟩) (n - i) (cap - (i + 1)) ((flat1 l).drop (i + 1)) ?_ (by rw [List.length_drop, hnl]; omega) ?_ (fun u hu => flat1_one l u (List.mem_of_mem_drop hu)) (by omega) (by rw [List.length_drop, hnl, HC.out]; omega) ?_
  · show Value.slice (if cap = i + 1 then some { block := g, off := 0 } else some { block := g, off := i + 1 }) (n - i) (cap - (i + 1)) = _
    split <;> rfl
  · intro j u hu
    rw [List.getElem?_drop] at hu
    have hj : i + 1 + j < n + 1 := by
      have := (List.getElem?_eq_some_iff.1 hu).1
      rwa [hnl] at this
    rw [if_neg (by omega)]
    have hadd : (⟨g, i + 1, none⟩ : Addr).add j = ⟨g, i + 1 + j, none⟩ := by unfold Addr.add; split <;> simp_all
    rw [hadd]
    rw [hxs] at hu
    exact hread _ _ hu
  refine hK _ _ trivial ?_
  clear hK K
  rw [show i + (n - i) = n by omega]
  have hcur1 : (cur.toList.take (i * 1) ++ (flat1 l).drop (i + 1) ++ cur.toList.drop (i * 1 + ((flat1 l).drop (i + 1)).length)).toArray.size = cap := by
    simp [hnl, HC.out]; omega
  have htk1 : (cur.toList.take (i * 1) ++ (flat1 l).drop (i + 1) ++ cur.toList.drop (i * 1 + ((flat1 l).drop (i + 1)).length)).take n = flat1 (l.eraseIdx i) := by
    rw [Nat.mul_one, List.take_append_of_le_length (by simp [hnl, HC.out]; omega), List.take_of_length_le (by simp [hnl, HC.out]; omega)]
    have e2 : cur.toList.take i = (flat1 l).take i := by rw [hxs, List.take_take, Nat.min_eq_left (by omega)]
    rw [e2, List.eraseIdx_eq_take_drop_succ, flat1_append]
    simp [flat1]
  generalize (cur.toList.take (i * 1) ++ (flat1 l).drop (i + 1) ++ cur.toList.drop (i * 1 + ((flat1 l).drop (i + 1)).length)) = cs1 at hcur1 htk1 ⊢
  have hg1 := setRow_heap w.drew g cur cs1.toArray 3 (0, 0) HG.out
  have hk1 : Keep (fun k => k = g) w (w.drew.setRow g cs1.toArray) := ((Keep.refl _ w).drew).trans (setRow_keep _ _ _)
  generalize w.drew.setRow g cs1.toArray = w1 at hg1 hk1 ⊢
  have hz1 : (Builtin.zeroCells (Value.int .i64 0).cells 1).toList = [Value.int .i64 0] := by simp [Builtin.zeroCells, Value.cells]
  have hcl : ∀ ty c, (Builtin.clear_ #[27] ty #[.slice (some ⟨g, n, none⟩) 1 c]).run Try.prog w1 = .ok (.tuple #[]) (w1.setRow g (cs1.take n ++ [Value.int .i64 0] ++ cs1.drop (n + 1)).toArray) := fun ty c => by
    have := run_clear_one (P := Try.prog) w1 27 ty 3 i0 Try.underlying27 HI.out (.int .i64 0) HZ.out g n c cs1.toArray hg1 (by rw [hz1, hcur1]; simp; omega) (by rw [hz1]; simp [Value.oneCell'])
    rw [hz1] at this
    exact this
  have hg2 := setRow_heap w1 g cs1.toArray (cs1.take n ++ [Value.int .i64 0] ++ cs1.drop (n + 1)).toArray 3 (0, 0) hg1
  have hk2 : Keep (fun k => k = g) w (w1.setRow g (cs1.take n ++ [Value.int .i64 0] ++ cs1.drop (n + 1)).toArray) := hk1.trans (setRow_keep _ _ _)
  have hlc : cs1.length = cap := by simpa using hcur1
  have htk2 : (cs1.take n ++ [Value.int .i64 0] ++ cs1.drop (n + 1)).take n = flat1 (l.eraseIdx i) := by
    rw [List.append_assoc, List.take_append_of_le_length (by simp; omega), List.take_take, Nat.min_self, htk1]
  have hcur2 : (cs1.take n ++ [Value.int .i64 0] ++ cs1.drop (n + 1)).toArray.size = cap := by simp [hlc] <;> omega
  generalize (cs1.take n ++ [Value.int .i64 0] ++ cs1.drop (n + 1)) = cs2 at hcl hg2 hk2 htk2 hcur2 ⊢
  generalize w1.setRow g cs2.toArray = w2 at hcl hg2 hk2 ⊢
  have HK2 := hid hk2
  have HG2 := hid hg2
  have HT2 := hid htk2
  have HC2 := hid hcur2
  clear hg1 hk1 hcur1 htk1 hread hxs hnl hz1 hlc hg2 hk2 htk2 hcur2
  repeat (first
    | (refine' wpT_calm (v := _) (by rfl) (fun W hW => ?_) ?_; rotate_left
       · ((try dsimp only at hW); go_simp; first | done | rfl)
       simp only [Act.put, List.setIfInBounds_toArray, List.set_cons_zero, List.set_cons_succ])
    | (refine' wpT_reads (v := _) (by rfl) ?_ ?_; rotate_left
       · (go_simp; first | done | rfl)
       simp only [Act.put, List.setIfInBounds_toArray, List.set_cons_zero, List.set_cons_succ])
    | (refine wpT_skip (by rfl) rfl ?_; simp only [Act.put, List.setIfInBounds_toArray, List.set_cons_zero, List.set_cons_succ])
    | (refine wpT_does (by rfl) (fun K hK => ?_); go_simp; refine hK _ _ ?_ ?_
       · (trivial)
       clear hK K; try simp only [Act.put, List.setIfInBounds_toArray, List.set_cons_zero, List.set_cons_succ])
    | (refine wpT_last (by rfl) (fun K hK => ?_); go_simp; refine hK _ _ ?_; clear hK K)
    | (refine wpT_nil ?_))
  go_wp2
  all_goals
    go_ret
    refine ⟨_, rfl, ?_, rfl, HK2.out.mono fun k _ e => by rw [e]; rfl⟩
    have hle : (l.eraseIdx i).length = n := by rw [List.length_eraseIdx_of_lt (by rw [HN.out]; omega), HN.out]; rfl
    refine ⟨by rw [flat1_length, Nat.mul_one], .inr ⟨g, cap, cs2.toArray, by rw [hle]; first | rfl | (subst h; rfl), Nat.zero_le _, HG2.out, by omega, by unfold maxLen; omega, by rw [HC2.out, Nat.mul_one], ?_⟩⟩
    rw [hle, Nat.mul_one]
    exact HT2.out
end Go.Proofs.Ytegpoocmhamlpaa
