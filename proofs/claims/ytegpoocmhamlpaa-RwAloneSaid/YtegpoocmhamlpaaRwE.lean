/- The walks of the reference's RW: lists of structs {T, Write, Has}; at, Tasks, Writer, out. -/
import Derived.Test.YtegpoocmhamlpaaRwD
namespace Go.Proofs.Ytegpoocmhamlpaa
open Go Go.RowKit

abbrev On := Int × Bool × Bool
def at3 (l : List On) (i : Nat) : On := l.getD i (0, false, false)
def flat3 (l : List On) : List Value := l.flatMap fun p => [.int .i64 p.1, .bool p.2.1, .bool p.2.2]

theorem flat3_cons (p : On) (l : List On) : flat3 (p :: l) = .int .i64 p.1 :: .bool p.2.1 :: .bool p.2.2 :: flat3 l := rfl
theorem flat3_append (a b : List On) : flat3 (a ++ b) = flat3 a ++ flat3 b := by simp [flat3]
theorem flat3_length : ∀ l, (flat3 l).length = l.length * 3
  | [] => rfl
  | p :: l => by rw [flat3_cons]; simp [flat3_length l]; omega
theorem flat3_get : ∀ (l : List On) (i : Nat), i < l.length → (flat3 l)[i * 3]? = some (.int .i64 (at3 l i).1) ∧ (flat3 l)[i * 3 + 1]? = some (.bool (at3 l i).2.1) ∧ (flat3 l)[i * 3 + 2]? = some (.bool (at3 l i).2.2)
  | [], i, h => absurd h (Nat.not_lt_zero i)
  | p :: l, 0, _ => ⟨rfl, rfl, rfl⟩
  | p :: l, i + 1, h => by
    have := flat3_get l i (by simpa using h)
    rw [flat3_cons, show (i + 1) * 3 = i * 3 + 1 + 1 + 1 from by omega]
    simpa [at3] using this
theorem flat3_one : ∀ (l : List On) (v : Value), v ∈ flat3 l → v.oneCell' = true := by
  intro l v hv
  simp only [flat3, List.mem_flatMap] at hv
  obtain ⟨p, _, hp⟩ := hv
  simp only [List.mem_cons, List.not_mem_nil, or_false] at hp
  rcases hp with rfl | rfl | rfl <;> rfl
theorem flat3_take (l : List On) (i : Nat) : flat3 (l.take i) = (flat3 l).take (i * 3) := by
  induction l generalizing i with
  | nil => simp [flat3]
  | cons p l ih =>
    cases i with
    | zero => simp [flat3]
    | succ i => rw [List.take_succ_cons, flat3_cons, flat3_cons, show (i + 1) * 3 = i * 3 + 1 + 1 + 1 from by omega, List.take_succ_cons, List.take_succ_cons, List.take_succ_cons, ih]
theorem flat3_drop (l : List On) (i : Nat) : flat3 (l.drop i) = (flat3 l).drop (i * 3) := by
  induction l generalizing i with
  | nil => simp [flat3]
  | cons p l ih =>
    cases i with
    | zero => simp [flat3]
    | succ i => rw [List.drop_succ_cons, flat3_cons, show (i + 1) * 3 = i * 3 + 1 + 1 + 1 from by omega, List.drop_succ_cons, List.drop_succ_cons, List.drop_succ_cons, ih]

/-- v is the call's own list l. -/
def OwnT (w : World) (v : Value) (l : List On) : Prop := w.ownsRow 0 92 3 v l.length (flat3 l)

theorem OwnT.form {w : World} {v : Value} {l : List On} (h : OwnT w v l) : ∃ a c, v = .slice a l.length c := owns_form h
theorem OwnT.keep {F : Nat → Prop} {w w' : World} {v : Value} {l : List On} (h : OwnT w v l) (hK : Keep F w w') (hF : ∀ k, v.ownBlock = some k → ¬ F k) : OwnT w' v l := owns_keep h hK hF
theorem OwnT.lt {w : World} {v : Value} {l : List On} (h : OwnT w v l) {k : Nat} (hk : v.ownBlock = some k) : k < w.heap.size := (World.ownsRow.lt h k hk).2

theorem OwnT.row {w : World} {v : Value} {l : List On} (h : OwnT w v l) (hn : 0 < l.length) : ∃ g c, v = .slice (some ⟨g, 0, none⟩) l.length c ∧ g < w.heap.size ∧ l.length ≤ c ∧ c ≤ maxLen ∧
    ∀ j u, (flat3 l)[j]? = some u → w.cell? ⟨g, j, none⟩ = some u := by
  obtain ⟨h1, ⟨_, h2⟩ | ⟨g, cap, cur, rfl, _, hg, hn', hc, hs, ht⟩⟩ := h
  · omega
  · refine ⟨g, cap, rfl, lt_of_heap hg, hn', hc, fun j u hu => ?_⟩
    rw [← ht] at hu
    rw [cell_of_row w g j cur 92 (0, 0) hg]
    rw [List.getElem?_take] at hu
    split at hu
    · simpa using hu
    · cases hu

theorem OwnT.cells {w : World} {v : Value} {l : List On} (h : OwnT w v l) (hn : 0 < l.length) : ∃ g c, v = .slice (some ⟨g, 0, none⟩) l.length c ∧ g < w.heap.size ∧ l.length ≤ maxLen ∧
    ∀ i, i < l.length → w.cell? ⟨g, i * 3, none⟩ = some (.int .i64 (at3 l i).1) ∧ w.cell? ⟨g, i * 3 + 1, none⟩ = some (.bool (at3 l i).2.1) ∧ w.cell? ⟨g, i * 3 + 2, none⟩ = some (.bool (at3 l i).2.2) := by
  obtain ⟨g, c, hv, hg, h1, h2, hc⟩ := h.row hn
  exact ⟨g, c, hv, hg, Nat.le_trans h1 h2, fun i hi => ⟨hc _ _ (flat3_get l i hi).1, hc _ _ (flat3_get l i hi).2.1, hc _ _ (flat3_get l i hi).2.2⟩⟩

theorem Try.infoT : (Try.prog.info? 92).map (fun i => (i.zero, i.size, i.bytes)) = some (some (.agg #[.int .i64 0, .bool false, .bool false]), 3, 16) := by kernel_rfl

theorem wp_append_ones (w : World) {o : Oper} {a : Act} {K : Act → World → Prop} {Q : Exit → Act → World → Prop} (s x : Operand)
    (ho : o.op = .call { callee := .builtin .append, args := #[s, x], argTypes := #[56, 56] })
    (v : Value) (l : List On) (hs : a.eval s = v) (hown : OwnT w v l) (sv : Value) (m : Nat) (news : List On) (hx : a.eval x = sv) (hsrc : Src w sv m 3 (flat3 news)) (hn : l.length + m ≤ 1000000)
    (h : ∀ v' w', OwnT w' v' (l ++ news) → (∀ k, v'.ownBlock = some k → v.ownBlock = some k ∨ w.heap.size ≤ k) → Keep (fun k => v.ownBlock = some k) w w' → K (a.put o.dst v') w') : o.wp Try.prog a w K Q := by
  obtain ⟨i0, hi, hz0, hz1, hz2⟩ := info_parts Try.infoT
  have hm : news.length = m := by
    rcases hsrc with ⟨_, h1, h2⟩ | ⟨_, _, _, h2, _⟩
    · have : news.length * 3 = 0 := by rw [← flat3_length, h2]; rfl
      omega
    · rw [flat3_length] at h2; omega
  refine wp_append_src w s x 56 ho 0 92 i0 (.agg #[.int .i64 0, .bool false, .bool false]) 3 16 Try.underlying56 hi hz0 hz1 hz2 rfl (by decide) v l.length (flat3 l) hs hown sv m _ hx hsrc (by unfold maxLen; omega) (by omega) (Nat.zero_le _) ?_
  intro v1 w1 o1 g1 f1
  refine h v1 w1 ?_ f1 (Keep.of_grown g1)
  unfold OwnT
  rw [List.length_append, flat3_append, hm]
  exact o1

theorem one_srcT (w : World) (p : On) : Src (w.alloc (.cells #[.int .i64 p.1, .bool p.2.1, .bool p.2.2] 92)) (.slice (some ⟨w.heap.size, 0, none⟩) 1 1) 1 3 (flat3 [p]) := by
  refine .inr ⟨_, _, rfl, rfl, fun j u hu => ?_, flat3_one _⟩
  have hadd : (⟨w.heap.size, 0, none⟩ : Addr).add j = ⟨w.heap.size, j, none⟩ := by unfold Addr.add; split <;> simp_all
  rw [hadd, World.cell?_alloc_new]
  match j, hu with
  | 0, hu => exact hu
  | 1, hu => exact hu
  | 2, hu => exact hu

theorem made_rowT (w : World) : OwnT (w.alloc (.cells #[] 92)) (.slice (some ⟨w.heap.size, 0, none⟩) 0 0) [] := World.ownsRow_made w #[] 0 (Nat.zero_le _) (by simp [maxLen]) (by simp)

theorem own_part3 {w : World} {g c n : Nat} {l : List On} (h : OwnT w (.slice (some ⟨g, 0, none⟩) n c) l) (hl : 0 < l.length) (off m d : Nat) (s : List On) (hs : s = (l.drop off).take m) (hm : s.length = m) : Src w (.slice (some ⟨g, off * 3, none⟩) m d) m 3 (flat3 s) := by
  obtain ⟨g', c', hv, _, _, _, hc⟩ := h.row hl
  have hg : g = g' := by simp only [Value.slice.injEq, Option.some.injEq, Addr.mk.injEq] at hv; exact hv.1.1
  subst hg
  refine .inr ⟨_, _, rfl, by rw [flat3_length, hm], fun j u hu => ?_, flat3_one s⟩
  have hadd : (⟨g, off * 3, none⟩ : Addr).add j = ⟨g, off * 3 + j, none⟩ := by unfold Addr.add; split <;> simp_all
  rw [hadd]
  refine hc _ _ ?_
  rw [hs, flat3_take, flat3_drop, List.getElem?_take] at hu
  split at hu
  · rw [List.getElem?_drop] at hu; exact hu
  · cases hu

/-- The tasks of a kind. -/
def tsk (E : List On) (a c : Bool) : List Int := (E.filter fun p => p.2.1 == a && p.2.2 == c).map (·.1)
def Cel.ct (l : List On) : Cel := .li 92 3 l.length (flat3 l)
def tcs (E : List On) : List Cel := [.ct E]

theorem at3_fst (l : List On) (i : Nat) (h : i < l.length) : nth (l.map (·.1)) i = (at3 l i).1 := by simp [nth, at3, h]
theorem tsk_take (E : List On) (a c : Bool) (k : Nat) (h : k < E.length) : tsk (E.take (k + 1)) a c = tsk (E.take k) a c ++ (if (at3 E k).2.1 = a ∧ (at3 E k).2.2 = c then [(at3 E k).1] else []) := by
  have e : at3 E k = E[k] := by simp [at3, h]
  rw [List.take_succ_eq_append_getElem h, tsk, List.filter_append, List.map_append, ← e]
  congr 1
  by_cases hh : (at3 E k).2.1 = a ∧ (at3 E k).2.2 = c
  · rw [if_pos hh, List.filter_cons_of_pos (by simp [hh.1, hh.2])]; rfl
  · rw [if_neg hh, List.filter_cons_of_neg (by simpa using hh)]; rfl
theorem tsk_len (E : List On) (a c : Bool) : (tsk E a c).length ≤ E.length := by
  unfold tsk; rw [List.length_map]; exact List.length_filter_le _ _

section
variable {w0 w w' : World} {G : Nat → Prop} {b : Nat} {E : List On}

theorem MNew.tk (h : MNew 58 w0 w G b (tcs E)) : G b ∧ ∃ vs v, MobAt 58 w b (tcs E) vs ∧ (∀ v ∈ vs, ∀ k, v.ownBlock = some k → G k) ∧ vs[0]? = some v ∧ OwnT w v E ∧ w.cell? ⟨b, 0, none⟩ = some v := by
  obtain ⟨⟨hGb, _, vs, hM, hvs⟩, _⟩ := h
  obtain ⟨v, h0, c0, o0, _⟩ := hM.list 0 (e := 92) (s := 3) (n := E.length) (xs := flat3 E) rfl
  exact ⟨hGb, vs, v, hM, hvs, h0, o0, c0⟩

theorem MNew.storedT {T : Nat} {cs : List Cel} {vs : List Value} (h : MNew T w0 w G b cs) (hM : MobAt T w b cs vs) (hGb : G b) (hvs : ∀ v ∈ vs, ∀ k, v.ownBlock = some k → G k) {i : Nat} {v v' : Value} {l : List On} (hv : vs[i]? = some v)
    (hK : Keep (fun k => v.ownBlock = some k) w w') (o : OwnT w' v' l) (f : ∀ k, v'.ownBlock = some k → v.ownBlock = some k ∨ w.heap.size ≤ k) : StepM T w0 G w (w'.setCell ⟨b, i, none⟩ v') b (cs.set i (.ct l)) := by
  have hne : v'.ownBlock ≠ some b := fun e => by
    obtain ⟨c, _, hf⟩ := hM.mob.at hv
    rcases f b e with h1 | h1
    · exact hf.ne h1
    · have := hM.lt; omega
  have M2 := hM.setList (c' := .ct l) hv hK ⟨o, hne⟩ f
  have hGv : ∀ k, v.ownBlock = some k → G k := hvs v (List.mem_of_getElem? hv)
  refine h.on (AfterM.stored M2 ((hK.mono fun k _ e => hGv k e).setCell (.inl hGb) _) hGb fun u hu k hk => ?_)
  rcases List.mem_or_eq_of_mem_set hu with hu | rfl
  · exact .inl (hvs u hu k hk)
  · exact (f k hk).elim (fun e => .inl (hGv k e)) .inr

set_option maxHeartbeats 1000000 in
theorem tat_any (t : Int) (h : MNew 58 w0 w G b (tcs E)) (hn : E.length ≤ 1000) :
    Calls Try.prog 63 #[.pointer (some ⟨b, 0, none⟩), .int .i64 t] w fun e w' => e = .returned (.int .i64 (idx (E.map (·.1)) t)) ∧ w = w' := by
  obtain ⟨-, vs, v, -, -, -, o0, c0⟩ := h.tk
  obtain ⟨a, c, hv⟩ := o0.form
  have HV := hid hv
  have O := hid o0
  rw [hv] at c0
  clear h o0 hv
  go_enter Try.func63, Try.ntmps63
  go_wp2
  go_loop [5] (fun i => ∃ k : Nat, k ≤ E.length ∧ i = .int .i64 k ∧ ∀ j, j < k → nth (E.map (·.1)) j ≠ t) (fun i => E.length - (intOf i).toNat)
  case atStart => exact ⟨0, by omega, rfl, fun j h => absurd h (Nat.not_lt_zero j)⟩
  case round =>
    obtain ⟨k, hk, rfl, hno⟩ := hrel
    have N := hid hno
    clear hno
    by_cases hlt : k < E.length
    · obtain ⟨g, c', hv', hg, hmx, hc⟩ := O.out.cells (by omega)
      have hav : a = some ⟨g, 0, none⟩ ∧ c = c' := by rw [HV.out] at hv'; cases hv'; exact ⟨rfl, rfl⟩
      obtain ⟨rfl, rfl⟩ := hav
      have k1 := (hc k hlt).1
      have hlt' : (k : Int) < (E.length : Int) := by omega
      have X := hid (at3_fst E k hlt)
      obtain ⟨x, hx⟩ : ∃ x, (at3 E k).1 = x := ⟨_, rfl⟩
      rw [hx] at k1 X
      unfold maxLen at hmx
      clear hc hv' hx
      by_cases hxt : x = t
      · have hb : (x == t) = true := by simp [hxt]
        have I := hid (idx_some (l := E.map (·.1)) (t := t) (k := k) (by rw [List.length_map]; exact hlt) (by rw [X.out]; exact hxt) N.out)
        clear hxt
        go_wp2
        go_ret
        exact ⟨by rw [I.out]; rfl, rfl⟩
      · have hb : (x == t) = false := by simp [hxt]
        have N2 := hid (fun j (hj : j < k + 1) => by
          by_cases e : j = k
          · subst e; rw [X.out]; exact hxt
          · exact N.out j (by omega) : ∀ j, j < k + 1 → nth (E.map (·.1)) j ≠ t)
        clear hxt
        go_wp2
        go_round
        case rel => exact ⟨k + 1, by omega, by go_num, N2.out⟩
        case measure => simp [intOf]; omega
    obtain rfl : k = E.length := by omega
    have hlt' : ¬ ((E.length : Int) < (E.length : Int)) := by omega
    have I := hid (idx_none (l := E.map (·.1)) (t := t) (fun i hi => N.out i (by simpa using hi)))
    go_wp2
    go_ret
    exact ⟨by rw [I.out]; rfl, rfl⟩

set_option maxHeartbeats 2000000 in
theorem ttasks_any (p q : Bool) (h : MNew 58 w0 w G b (tcs E)) (hn : E.length ≤ 1000) :
    Calls Try.prog 54 #[.pointer (some ⟨b, 0, none⟩), .bool p, .bool q] w fun e w' => ∃ a n, e = .returned (.slice a (tsk E p q).length n) ∧ OwnI w' (.slice a (tsk E p q).length n) (tsk E p q) ∧ Keep (fun _ => False) w w' ∧ ∀ k, (Value.slice a (tsk E p q).length n).ownBlock = some k → w.heap.size ≤ k := by
  obtain ⟨-, vs, v, hM, -, -, o0, c0⟩ := h.tk
  have hb := hM.lt
  obtain ⟨aE, cE, hv⟩ := o0.form
  have HV := hid hv
  have O := hid o0
  rw [hv] at c0
  have I0 := hid (made_rowI w : OwnI _ _ [])
  have KA := hid ((Keep.refl (fun _ => False) w).alloc (.cells #[] 3))
  clear h o0 hv hM
  go_enter Try.func54, Try.ntmps54
  go_wp2_with fail
  go_loopw [7, 8] (fun r i wr => ∃ (k : Nat) (L : List Int) (a : Option Addr) (c : Nat), k ≤ E.length ∧ L = tsk (E.take k) p q ∧ i = .int .i64 k ∧ r = .slice a L.length c ∧ OwnI wr (.slice a L.length c) L ∧ Keep (fun _ => False) w wr ∧ ∀ x, (Value.slice a L.length c).ownBlock = some x → w.heap.size ≤ x) (fun _ i _ => E.length - (intOf i).toNat)
  case atStart => exact ⟨0, [], _, _, Nat.zero_le _, rfl, rfl, rfl, I0.out, KA.out, fun x hx => by have := Option.some.inj hx; dsimp only at this; omega⟩
  case round =>
    obtain ⟨k, L, a, c, hk, hL, rfl, rfl, hO, hK, hD⟩ := hrel
    have OL := hid hO
    have K0 := hid hK
    have D := hid hD
    have HL := hid hL
    have hLk : L.length ≤ 1000 := by have := tsk_len (E.take k) p q; rw [← hL, List.length_take] at this; omega
    have d0 := (hK.cell (p := ⟨b, 0, none⟩) hb (fun h => h)).trans c0
    clear hO hK hD hL
    by_cases hlt : k < E.length
    · obtain ⟨g, c', hv', hg, hmx, hc⟩ := O.out.cells (by omega)
      have hav : aE = some ⟨g, 0, none⟩ ∧ cE = c' := by rw [HV.out] at hv'; cases hv'; exact ⟨rfl, rfl⟩
      obtain ⟨rfl, rfl⟩ := hav
      have k1 := (K0.out.cell (p := ⟨g, k * 3, none⟩) hg (fun h => h)).trans (hc k hlt).1
      have k2 := (K0.out.cell (p := ⟨g, k * 3 + 1, none⟩) hg (fun h => h)).trans (hc k hlt).2.1
      have k3 := (K0.out.cell (p := ⟨g, k * 3 + 2, none⟩) hg (fun h => h)).trans (hc k hlt).2.2
      have hlt' : (k : Int) < (E.length : Int) := by omega
      have TK := tsk_take E p q k hlt
      rw [← HL.out] at TK
      obtain ⟨x, hx⟩ : ∃ x, (at3 E k).1 = x := ⟨_, rfl⟩
      obtain ⟨y, hy⟩ : ∃ y, (at3 E k).2.1 = y := ⟨_, rfl⟩
      obtain ⟨z, hz⟩ : ∃ z, (at3 E k).2.2 = z := ⟨_, rfl⟩
      rw [hx] at k1 TK
      rw [hy] at k2 TK
      rw [hz] at k3 TK
      unfold maxLen at hmx
      clear hc hv' hx hy hz
      by_cases hyp : y = p
      · by_cases hzq : z = q
        · rw [if_pos ⟨hyp, hzq⟩] at TK
          have TK := hid TK
          have e1 : (y == p) = true := by simp [hyp]
          have e2 : (z == q) = true := by simp [hzq]
          have ka : Keep (fun _ => False) wr (wr.alloc (.cells #[.int .i64 x] 3)) := (Keep.refl _ _).alloc _
          have hown := OL.out.keep ka (fun _ _ h => h)
          have hsrc := one_srcI wr x
          clear hyp hzq
          go_wp2_with (at_builtin; refine wpList_plain rfl (fun K hK => wp_append_ints _ (.tmp 41) (.tmp 50) rfl _ L rfl hown _ 1 _ rfl hsrc (by omega) ?_))
          intro v2 W2 o2 f2 k2'
          have KF := hid ((K0.out.trans ka).then k2' (fun z hz => .inr (D.out z hz)))
          have FF : ∀ z, v2.ownBlock = some z → w.heap.size ≤ z := fun z hz => (f2 z hz).elim (D.out z) (fun h => by have := K0.out.size; omega)
          obtain ⟨a2, n2, hv2⟩ := o2.form
          rw [hv2] at o2 FF
          have O2 := hid o2
          have F2 := hid FF
          have hl2 : (L ++ [x]).length = L.length + 1 := by simp
          rw [hl2] at hv2
          have HL2 := hid hl2
          subst hv2
          refine hK _ _ ?_
          clear hK K o2 f2 k2' FF hsrc hown ka hl2
          go_wp2_with fail
          go_roundw
          case rel => exact ⟨k + 1, L ++ [x], a2, n2, by omega, TK.out.symm, by go_num, by rw [HL2.out], O2.out, KF.out, F2.out⟩
          case measure => simp [intOf]; omega
        · rw [if_neg (fun h => hzq h.2), List.append_nil] at TK
          have TK := hid TK
          have e1 : (y == p) = true := by simp [hyp]
          have e2 : (z == q) = false := by simp [hzq]
          clear hyp hzq
          go_wp2_with fail
          go_roundw
          case rel => exact ⟨k + 1, L, a, c, by omega, TK.out.symm, by go_num, rfl, OL.out, K0.out, D.out⟩
          case measure => simp [intOf]; omega
      · rw [if_neg (fun h => hyp h.1), List.append_nil] at TK
        have TK := hid TK
        have e1 : (y == p) = false := by simp [hyp]
        clear hyp
        go_wp2_with fail
        go_roundw
        case rel => exact ⟨k + 1, L, a, c, by omega, TK.out.symm, by go_num, rfl, OL.out, K0.out, D.out⟩
        case measure => simp [intOf]; omega
    obtain rfl : k = E.length := by omega
    have hlt' : ¬ ((E.length : Int) < (E.length : Int)) := by omega
    have e := HL.out
    rw [List.take_of_length_le (Nat.le_refl _)] at e
    subst e
    go_wp2
    go_ret
    exact ⟨_, _, rfl, OL.out, K0.out, D.out⟩

theorem twriter_any (h : MNew 58 w0 w G b (tcs E)) (hn : E.length ≤ 1000) :
    Calls Try.prog 53 #[.pointer (some ⟨b, 0, none⟩)] w fun e w' => e = .returned (.int .i64 ((tsk E true true).headD 0)) ∧ Keep (fun _ => False) w w' := by
  obtain ⟨L, hL⟩ : ∃ L, tsk E true true = L := ⟨_, rfl⟩
  have HL := hid hL
  have HLE := hid (tsk_len E true true)
  go_enter Try.func53, Try.ntmps53
  go_wp2_with fail
  refine (ttasks_any true true h hn).mono ?_
  rintro e w1 ⟨a, n, rfl, o1, k1, -⟩
  rw [HL.out] at o1 HLE ⊢
  have O := hid o1
  have K1 := hid k1
  clear o1 k1 hL
  cases L with
  | nil =>
    go_wp2
    go_ret
    exact ⟨by rw [HL.out]; rfl, K1.out⟩
  | cons x l =>
    obtain ⟨g, off, c, hv, hc⟩ : ∃ g off c, Value.slice a (x :: l).length n = .slice (some ⟨g, off, none⟩) (x :: l).length c ∧ w1.cell? ⟨g, off, none⟩ = some (.int .i64 x) := by
      rcases O.out.reads with ⟨_, _, _, h0⟩ | ⟨g, off, c, h1, _, _, hc⟩
      · cases h0
      · exact ⟨g, off, c, h1, by simpa [nth] using hc 0 (by simp)⟩
    cases hv
    obtain ⟨m, hm⟩ : ∃ m : Nat, (x :: l).length = m := ⟨_, rfl⟩
    have hmp : 0 < m := by rw [← hm]; simp
    have hmx : m ≤ 1000 := by have := HLE.out; omega
    have hm0 : ((m : Int) == 0) = false := by simp; omega
    have hmp' : (0 : Int) < (m : Int) := by omega
    rw [hm]
    clear hm
    go_wp2
    go_ret
    exact ⟨by rw [HL.out]; rfl, K1.out⟩
end
end Go.Proofs.Ytegpoocmhamlpaa
