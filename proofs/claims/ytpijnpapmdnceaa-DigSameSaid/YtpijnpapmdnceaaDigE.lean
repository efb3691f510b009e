/- Lists of bytes of the call's own: slices.Clone, and the padded bytes. -/
import Derived.Test.YtpijnpapmdnceaaApz
import Derived.Test.YtpijnpapmdnceaaDigC
import Derived.WalkLawsBesides
namespace Go.Proofs.Ytpijnpapmdnceaa
open Go Go.RowKit

theorem flat8_length (l : List B8) : (flat8 l).length = l.length := by simp [flat8]
theorem flat8_append (a b : List B8) : flat8 (a ++ b) = flat8 a ++ flat8 b := by simp [flat8]
theorem flat8_one (l : List B8) : ∀ v ∈ flat8 l, v.oneCell' = true := by
  intro v hv
  simp only [flat8, List.mem_map] at hv
  obtain ⟨x, _, rfl⟩ := hv
  rfl
theorem gb_get (l : List B8) (i : Nat) (h : i < l.length) : gb l i = l[i] := by simp [gb, h]
theorem flat8_get (l : List B8) (i : Nat) (h : i < l.length) : (flat8 l)[i]? = some (.int .u8 ((gb l i).toNat : Int)) := by
  simp [flat8, gb_get l i h, h]

/-- v is the call's own list l. -/
def OwnY (w : World) (v : Value) (l : List B8) : Prop := w.ownsRow 0 5 1 v l.length (flat8 l)
theorem OwnY.form {w : World} {v : Value} {l : List B8} (h : OwnY w v l) : ∃ a c, v = .slice a l.length c := owns_form h
theorem OwnY.reads {w : World} {v : Value} {l : List B8} (h : OwnY w v l) : ReadY w v l := by
  obtain ⟨h1, h2 | ⟨g, cap, cur, rfl, _, hg, hn, hc, hs, ht⟩⟩ := h
  · exact .inl ⟨none, 0, h2.1, List.eq_nil_of_length_eq_zero h2.2⟩
  · refine .inr ⟨g, 0, cap, rfl, lt_of_heap hg, Nat.le_trans hn hc, fun i hi => ?_⟩
    have hv := flat8_get l i hi
    rw [Nat.zero_add, cell_of_row w g i cur 5 (0, 0) hg]
    rw [← ht, List.getElem?_take] at hv
    split at hv
    · simpa using hv
    · cases hv
theorem OwnY.nil (w : World) : OwnY w (.slice none 0 0) [] := World.ownsRow_nil _ _ _ _
theorem OwnY.keep {F : Nat → Prop} {w w' : World} {v : Value} {l : List B8} (h : OwnY w v l) (hK : Keep F w w') (hF : ∀ k, v.ownBlock = some k → ¬ F k) : OwnY w' v l := owns_keep h hK hF
/-- A byte is stored. -/
theorem OwnY.set {w : World} {g n c : Nat} {l : List B8} (h : OwnY w (.slice (some ⟨g, 0, none⟩) n c) l) (i : Nat) (x : B8) : OwnY (w.setCell ⟨g, i, none⟩ (.int .u8 (x.toNat : Int))) (.slice (some ⟨g, 0, none⟩) n c) (l.set i x) := by
  obtain ⟨h1, ⟨h0, _⟩ | ⟨g', cap, cur, hv, hb, hg, hn, hc, hs, ht⟩⟩ := h
  · cases h0
  · simp only [Value.slice.injEq, Option.some.injEq, Addr.mk.injEq, and_true] at hv
    obtain ⟨rfl, rfl, rfl⟩ := hv
    have hst := heap_setCell_same w g i cur 5 (.int .u8 (x.toNat : Int)) hg
    refine ⟨by rw [flat8_length, List.length_set]; omega, .inr ⟨g, c, _, by rw [List.length_set], hb, hst, by rw [List.length_set]; exact hn, hc, by simpa using hs, ?_⟩⟩
    have e : flat8 (l.set i x) = (flat8 l).set i (.int .u8 (x.toNat : Int)) := by simp [flat8, List.map_set]
    rw [e, ← ht, List.length_set]
    simp only [Array.toList_setIfInBounds]
    rw [List.take_set]
theorem OwnY.block {w : World} {v : Value} {l : List B8} (h : OwnY w v l) (hl : 0 < l.length) : ∃ g c, v = .slice (some ⟨g, 0, none⟩) l.length c ∧ l.length ≤ c ∧ c ≤ maxLen ∧ ∀ i, i < l.length → w.cell? ⟨g, i, none⟩ = some (.int .u8 ((gb l i).toNat : Int)) ∧ w.frozen? ⟨g, i, none⟩ = false := by
  have hr := h.reads
  obtain ⟨h1, ⟨_, h0⟩ | ⟨g, cap, cur, rfl, hb, hg, hn, hc, hs, ht⟩⟩ := h
  · omega
  · refine ⟨g, cap, rfl, hn, hc, fun i hi => ⟨?_, frozen_of_row w g i _ _ hg⟩⟩
    rcases hr with ⟨_, _, h0, h2⟩ | ⟨g', off, c', hv, _, _, hcell⟩
    · rw [h2] at hl; exact absurd hl (Nat.lt_irrefl _)
    · simp only [Value.slice.injEq, Option.some.injEq, Addr.mk.injEq, and_true, true_and] at hv
      obtain ⟨⟨rfl, rfl⟩, rfl⟩ := hv
      have := hcell i hi
      rwa [Nat.zero_add] at this

theorem ReadY.src {w : World} {ad : Addr} {n c : Nat} {l : List B8} (h : ReadY w (.slice (some ad) n c) l) : Src w (.slice (some ad) n c) l.length 1 (flat8 l) := by
  obtain ⟨a, c', hv, rfl⟩ | ⟨g, off, c', hv, hg, hm, hc⟩ := h
  · simp only [Value.slice.injEq] at hv
    obtain ⟨rfl, rfl, rfl⟩ := hv
    exact .inr ⟨ad, c, rfl, rfl, fun j u hu => by simp [flat8] at hu, by simp [flat8]⟩
  · simp only [Value.slice.injEq, Option.some.injEq] at hv
    obtain ⟨rfl, rfl, rfl⟩ := hv
    refine .inr ⟨_, c, rfl, by simp [flat8], fun j u hu => ?_, flat8_one l⟩
    have hj : j < l.length := by
      have := (List.getElem?_eq_some_iff.1 hu).1
      rwa [flat8_length] at this
    rw [flat8_get l j hj] at hu
    cases hu
    have hadd : (⟨g, off, none⟩ : Addr).add j = ⟨g, off + j, none⟩ := by unfold Addr.add; split <;> simp_all
    rw [hadd]; exact hc j hj

theorem Try.infoY : (Try.prog.info? 5).map (fun i => (i.zero, i.size, i.bytes)) = some (some (.int .u8 0), 1, 1) := by kernel_rfl
theorem made_rowY (w : World) : (w.alloc (.cells #[] 5)).ownsRow 0 5 1 (.slice (some ⟨w.heap.size, 0, none⟩) 0 0) 0 [] := World.ownsRow_made w #[] 0 (Nat.zero_le _) (by simp [maxLen]) (by simp)

theorem one_srcY (w : World) (t : B8) : Src (w.alloc (.cells #[.int .u8 (t.toNat : Int)] 5)) (.slice (some ⟨w.heap.size, 0, none⟩) 1 1) 1 1 (flat8 [t]) := by
  refine .inr ⟨_, _, rfl, rfl, fun j u hu => ?_, by simp [Value.oneCell', flat8]⟩
  have hadd : (⟨w.heap.size, 0, none⟩ : Addr).add j = ⟨w.heap.size, j, none⟩ := by unfold Addr.add; split <;> simp_all
  rw [hadd, World.cell?_alloc_new]
  simpa [flat8] using hu

theorem wp_append_bytes (w : World) {o : Oper} {a : Act} {K : Act → World → Prop} {Q : Exit → Act → World → Prop} (s x : Operand)
    (ho : o.op = .call { callee := .builtin .append, args := #[s, x], argTypes := #[22, 22] })
    (v : Value) (l : List B8) (hs : a.eval s = v) (hown : OwnY w v l) (sv : Value) (m : Nat) (news : List B8) (hx : a.eval x = sv) (hsrc : Src w sv m 1 (flat8 news)) (hn : l.length + m ≤ 1000000)
    (h : ∀ v' w', OwnY w' v' (l ++ news) → (∀ k, v'.ownBlock = some k → v.ownBlock = some k ∨ w.heap.size ≤ k) → Keep (fun k => v.ownBlock = some k) w w' → K (a.put o.dst v') w') : o.wp Try.prog a w K Q := by
  obtain ⟨i0, hi, hz0, hz1, hz2⟩ := info_parts Try.infoY
  have hm : news.length = m := by
    rcases hsrc with ⟨_, h1, h2⟩ | ⟨_, _, _, h2, _⟩
    · simp [flat8] at h2; rw [h1, h2]; rfl
    · simpa [flat8] using h2
  refine wp_append_src w s x 22 ho 0 5 i0 (.int .u8 0) 1 1 Try.underlying22 hi hz0 hz1 hz2 rfl (by decide) v l.length (flat8 l) hs hown sv m _ hx hsrc (by unfold maxLen; omega) (by omega) (Nat.zero_le _) ?_
  intro v1 w1 o1 g1 f1
  refine h v1 w1 ?_ f1 (Keep.of_grown g1)
  unfold OwnY
  rw [List.length_append, flat8_append, hm]
  exact o1
theorem wp_append_zbytes (w : World) {o : Oper} {a : Act} {K : Act → World → Prop} {Q : Exit → Act → World → Prop} (s x : Operand)
    (ho : o.op = .call { callee := .builtin .append, args := #[s, x], argTypes := #[22, 3] })
    (v : Value) (l : List B8) (hs : a.eval s = v) (hown : OwnY w v l) (m : Nat) (hx : a.eval x = .int .i64 (m : Int)) (hn : l.length + m ≤ 1000000)
    (h : ∀ v' w', OwnY w' v' (l ++ List.replicate m 0#8) → (∀ k, v'.ownBlock = some k → v.ownBlock = some k ∨ w.heap.size ≤ k) → Keep (fun k => v.ownBlock = some k) w w' → K (a.put o.dst v') w') : o.wp Try.prog a w K Q := by
  obtain ⟨i0, hi, hz0, hz1, hz2⟩ := info_parts Try.infoY
  refine wp_append_zeros w s x 22 3 .i64 ho 0 5 i0 (.int .u8 0) 1 Try.underlying22 Try.underlying3 hi hz0 hz1 hz2 rfl rfl v l.length (flat8 l) hs hown m hx (by unfold maxLen; omega) (by omega) (Nat.zero_le _) ?_
  intro v1 w1 o1 g1 f1
  refine h v1 w1 ?_ f1 (Keep.of_grown g1)
  unfold OwnY
  have e : flat8 (List.replicate m 0#8) = List.replicate m (.int .u8 0) := by simp [flat8]
  rw [List.length_append, flat8_append, e, List.length_replicate]
  exact o1

set_option maxHeartbeats 400000 in
theorem clone8_any {w : World} {v : Value} {l : List B8} (h : ReadY w v l) (hn : l.length ≤ 1000000) :
    Calls Try.prog 45 #[v] w fun e w' => ∃ v', e = .returned v' ∧ OwnY w' v' l ∧ (∀ k, v'.ownBlock = some k → w.heap.size ≤ k) ∧ Keep (fun _ => False) w w' := by
  obtain ⟨i0, hi, hz0, hz1, hz2⟩ := info_parts Try.infoY
  have hi := hid hi
  have hz0 := hid hz0
  have hz1 := hid hz1
  have hz2 := hid hz2
  obtain ⟨a, c, rfl⟩ := h.form
  cases a with
  | none =>
    have hl : l = [] := by
      rcases h with ⟨_, _, _, h0⟩ | ⟨g, off, c', hv, _⟩
      · exact h0
      · simp at hv
    subst hl
    have e1 : ∀ W, (binOp .eql 22 (.slice none 0 c) (.slice none 0 0)).run Try.prog W = .ok (.bool true) W := fun W => by kernel_rfl
    clear h
    go_enter Try.func45, Try.ntmps45
    go_wp2
    go_ret
    exact ⟨_, rfl, OwnY.nil _, fun k hk => by simp [Value.ownBlock] at hk, Keep.refl _ _⟩
  | some ad =>
    have e1 : ∀ W, (binOp .eql 22 (.slice (some ad) l.length c) (.slice none 0 0)).run Try.prog W = .ok (.bool false) W := fun W => by kernel_rfl
    have hs := h.src.keep (F := fun _ => False) ((Keep.refl _ _).alloc (.cells #[] 5)) (fun _ _ h => h)
    have HS := hid hs
    clear h hs
    go_enter Try.func45, Try.ntmps45
    go_wp2_with (at_builtin; refine wpList_plain rfl (fun K hK => wp_append_src _ (.tmp 5) (.tmp 6) 22 rfl 0 5 i0 (.int .u8 0) 1 1 Try.underlying22 hi.out hz0.out hz1.out hz2.out rfl (by decide) _ 0 [] rfl (made_rowY w) _ l.length (flat8 l) rfl HS.out (by unfold maxLen; omega) (by omega) (Nat.zero_le _) ?_))
    intro v1 w1 o1 g1 f1
    refine hK _ _ ?_
    clear hK K
    have K1 : Keep (fun _ => False) w w1 := ((Keep.refl _ _).alloc _).grown g1 (fun k hk => .inr (Nat.le_of_eq (Option.some.inj hk)))
    obtain ⟨a1, c1, rfl⟩ := owns_form o1
    have O1 := hid o1
    have F1 := hid f1
    clear o1 g1 f1
    go_wp2
    go_ret
    refine ⟨_, rfl, ?_, fun k hk => ?_, K1⟩
    · have := O1.out
      unfold OwnY
      simpa using this
    · rcases F1.out k hk with h | h
      · exact Nat.le_of_eq (Option.some.inj h)
      · try simp at h
        omega

/-- The padded bytes. -/
def padL (l : List B8) : List B8 := (List.range (allN l.length)).map (padF l)
theorem padL_len (l : List B8) : (padL l).length = allN l.length := by simp [padL]
theorem padL_gb (l : List B8) (i : Nat) (h : i < allN l.length) : gb (padL l) i = padF l i := by
  rw [gb_get _ _ (by rw [padL_len]; exact h)]
  simp [padL]
/-- How many zeros. -/
def padM (n : Nat) : Nat := (136 - (n + 1) % 136) % 136
theorem padM_all (n : Nat) : n + 1 + padM n = allN n := by unfold padM allN; omega
theorem pad_eq (l : List B8) (x : B8) (hx : x = if padM l.length = 0 then 134#8 else 128#8) : ((l ++ [6#8]) ++ List.replicate (padM l.length) 0#8).set (l.length + padM l.length) x = padL l := by
  have ha := padM_all l.length
  apply List.ext_getElem
  · simp [padL_len]; omega
  · intro i h1 h2
    rw [padL_len] at h2
    have e := padL_gb l i h2
    rw [gb_get _ _ (by rw [padL_len]; exact h2)] at e
    rw [e, List.getElem_set]
    unfold padF patb
    by_cases c1 : l.length + padM l.length = i
    · rw [if_pos c1, hx, if_neg (show ¬ i < l.length by omega), if_pos (show i + 1 = allN l.length by omega)]
      by_cases c2 : padM l.length = 0
      · rw [if_pos c2, if_pos (show i = l.length by omega)]; rfl
      · rw [if_neg c2, if_neg (show ¬ i = l.length by omega)]; rfl
    · rw [if_neg c1]
      by_cases c3 : i < l.length
      · rw [if_pos c3, gb_get l i c3, List.getElem_append_left (by simp; omega), List.getElem_append_left c3]
      · rw [if_neg c3, if_neg (show ¬ i + 1 = allN l.length by omega)]
        by_cases c4 : i = l.length
        · subst c4
          simp
        · rw [if_neg c4, List.getElem_append_right (by simp; omega)]
          simp

set_option maxRecDepth 10000 in
set_option maxHeartbeats 1000000 in
theorem padded_any {w : World} {v : Value} {l : List B8} (h : ReadY w v l) (hn : l.length ≤ 1000) :
    Calls Try.prog 32 #[v] w fun e w' => ∃ v', e = .returned v' ∧ OwnY w' v' (padL l) ∧ (∀ k, v'.ownBlock = some k → w.heap.size ≤ k) ∧ Keep (fun _ => False) w w' := by
  obtain ⟨a, c, hv⟩ := h.form
  have H := hid h
  subst hv
  have PE := hid (pad_eq l _ rfl)
  have pm136 : padM l.length < 136 := Nat.mod_lt _ (by decide)
  obtain ⟨n, hl⟩ : ∃ n, l.length = n := ⟨_, rfl⟩
  have HL := hid hl
  rw [hl] at H PE hn pm136 ⊢
  obtain ⟨m, hm⟩ : ∃ m, padM n = m := ⟨_, rfl⟩
  rw [hm] at PE pm136
  have hrm2 : (136 - ((n : Int) + 1) % 136) % 136 = (m : Int) := by rw [← hm]; unfold padM; omega
  have HR2 := hid hrm2
  clear h hl hm hrm2
  go_enter Try.func32, Try.ntmps32
  go_wp2_with fail
  refine (clone8_any H.out (by rw [HL.out]; omega)).mono ?_
  rintro _ w1 ⟨v1, rfl, o1, f1, k1⟩
  obtain ⟨a1, c1, hv1⟩ := o1.form
  rw [HL.out] at hv1
  subst hv1
  have ka : Keep (fun _ => False) w1 (w1.alloc (.cells #[.int .u8 6] 5)) := (Keep.refl _ _).alloc _
  have hown := o1.keep ka (fun _ _ h => h)
  have hsrc := one_srcY w1 6#8
  go_wp2_with (at_builtin; refine wpList_plain rfl (fun K hK => wp_append_bytes _ (.tmp 5) (.tmp 6) rfl (.slice a1 n c1) l rfl hown _ 1 [6#8] rfl hsrc (by rw [HL.out]; omega) ?_))
  intro v2 w2 o2 f2 k2
  have K2 := (k1.trans ka).then k2 (fun y hy => .inr (f1 y hy))
  have F2 : ∀ y, v2.ownBlock = some y → w.heap.size ≤ y := fun y hy => (f2 y hy).elim (f1 y) (fun h => Nat.le_trans (k1.trans ka).size (by rw [World.size_alloc]; exact h))
  refine hK _ _ ?_
  clear hK K
  have l2 : (l ++ [6#8]).length = n + 1 := by rw [List.length_append, HL.out]; rfl
  obtain ⟨a2, c2, hv2⟩ := o2.form
  rw [l2] at hv2
  subst hv2
  clear f1 k1 o1 ka hown hsrc f2 k2
  have PG := hid (show gb ((l ++ [6#8]) ++ List.replicate m 0#8) (n + m) = 6#8 ∧ (if m = 0 then 134#8 else 128#8) = 134#8 ∨ gb ((l ++ [6#8]) ++ List.replicate m 0#8) (n + m) = 0#8 ∧ (if m = 0 then 134#8 else 128#8) = 128#8 from by
    rw [gb_get _ _ (by rw [List.length_append, l2, List.length_replicate]; omega)]
    by_cases c : m = 0
    · refine .inl ⟨?_, if_pos c⟩
      subst c
      rw [List.getElem_append_left (by rw [l2]; omega), List.getElem_append_right (by rw [HL.out]; omega)]
      simp [HL.out]
    · refine .inr ⟨?_, if_neg c⟩
      rw [List.getElem_append_right (by rw [l2]; omega)]
      simp)
  obtain ⟨L2, hL2⟩ : ∃ L, l ++ [6#8] = L := ⟨_, rfl⟩
  rw [hL2] at o2 l2 PG PE
  have L3l : Hid ((L2 ++ List.replicate m 0#8).length = n + 1 + m) := hid (by rw [List.length_append, l2, List.length_replicate])
  have L2l := hid l2
  clear hL2 l2
  go_wp2_with (at_builtin; refine wpList_plain rfl (fun K hK => wp_append_zbytes _ (.tmp 8) (.tmp 13) rfl (.slice a2 (n + 1) c2) L2 rfl o2 m (congrArg (Value.int .i64) HR2.out) (by rw [L2l.out]; omega) ?_))
  intro v3 w3 o3 f3 k3
  have K3 := hid (K2.then k3 (fun y hy => .inr (F2 y hy)))
  have F3 : Hid (∀ y, v3.ownBlock = some y → w.heap.size ≤ y) := hid (fun y hy => (f3 y hy).elim (F2 y) (fun h => Nat.le_trans K2.size h))
  refine hK _ _ ?_
  clear hK K
  have hyx := PG.out
  have P3 := PE.out
  have l3 := L3l.out
  obtain ⟨L3, hL3⟩ : ∃ L, L2 ++ List.replicate m 0#8 = L := ⟨_, rfl⟩
  rw [hL3] at o3 l3 hyx P3
  clear hL3 PG PE L3l
  obtain ⟨g, c3, hv3, hc1, hc2, hcell⟩ := o3.block (by rw [l3]; omega)
  rw [l3] at hv3 hc1
  subst hv3
  obtain ⟨kc, kf⟩ := hcell (n + m) (by rw [l3]; omega)
  have O3 := hid o3
  have n3 : (((n + 1 + m : Nat) : Int) - 1) = ((n + m : Nat) : Int) := by omega
  unfold maxLen at hc2
  clear o3 o2 l3 hcell f3 k3 K2 F2 HR2
  rcases hyx with ⟨hy, hx⟩ | ⟨hy, hx⟩
  all_goals
    rw [hy] at kc
    rw [hx] at P3
    have P3 := hid P3
    have OS := hid (O3.out.set (n + m) (if m = 0 then 134#8 else 128#8))
    rw [hx] at OS
    clear hy hx
    go_wp2_with fail
    go_ret
    refine ⟨_, rfl, ?_, F3.out, K3.out.setCell (.inr (F3.out g rfl)) _⟩
    have := OS.out
    rw [P3.out] at this
    exact this
end Go.Proofs.Ytpijnpapmdnceaa
