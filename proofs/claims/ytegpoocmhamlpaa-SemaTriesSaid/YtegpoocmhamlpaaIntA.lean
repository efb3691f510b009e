/- Lists of ints: slices.Index, Contains, Clip, Clone, and the reference's look whether two are one. -/
import Derived.Test.YtegpoocmhamlpaaRows
import Derived.Test.YtegpoocmhamlpaaTxt
import Derived.Test.YtegpoocmhamlpaaOwn
import Derived.WalkKit
import Derived.WalkSpells
import Derived.WalkLawsBesides
namespace Go.Proofs.Ytegpoocmhamlpaa
open Go Go.RowKit

def nth (l : List Int) (i : Nat) : Int := l.getD i 0
def flat1 (l : List Int) : List Value := l.map (Value.int .i64)

theorem flat1_length (l : List Int) : (flat1 l).length = l.length := by simp [flat1]
theorem flat1_append (a b : List Int) : flat1 (a ++ b) = flat1 a ++ flat1 b := by simp [flat1]
theorem flat1_one (l : List Int) : ∀ v ∈ flat1 l, v.oneCell' = true := by
  intro v hv
  simp only [flat1, List.mem_map] at hv
  obtain ⟨x, _, rfl⟩ := hv
  rfl
theorem flat1_get (l : List Int) (i : Nat) (h : i < l.length) : (flat1 l)[i]? = some (.int .i64 (nth l i)) := by
  simp [flat1, nth, h]
theorem nth_get (l : List Int) (i : Nat) (h : i < l.length) : nth l i = l[i] := by simp [nth, h]

/-- v is the call's own list l. -/
def OwnI (w : World) (v : Value) (l : List Int) : Prop := w.ownsRow 0 3 1 v l.length (flat1 l)

/-- v can be read as the list l. -/
def ReadI (w : World) (v : Value) (l : List Int) : Prop :=
  (∃ a c, v = .slice a 0 c ∧ l = []) ∨ ∃ g off c, v = .slice (some ⟨g, off, none⟩) l.length c ∧ g < w.heap.size ∧ l.length ≤ maxLen ∧
    ∀ i, i < l.length → w.cell? ⟨g, off + i, none⟩ = some (.int .i64 (nth l i))

theorem ReadI.form {w : World} {v : Value} {l : List Int} (h : ReadI w v l) : ∃ a c, v = .slice a l.length c := by
  obtain ⟨a, c, rfl, rfl⟩ | ⟨g, off, c, rfl, _⟩ := h
  · exact ⟨a, c, rfl⟩
  · exact ⟨_, c, rfl⟩

theorem OwnI.form {w : World} {v : Value} {l : List Int} (h : OwnI w v l) : ∃ a c, v = .slice a l.length c := owns_form h

theorem OwnI.reads {w : World} {v : Value} {l : List Int} (h : OwnI w v l) : ReadI w v l := by
  obtain ⟨h1, h2 | ⟨g, cap, cur, rfl, _, hg, hn, hc, hs, ht⟩⟩ := h
  · exact .inl ⟨none, 0, h2.1, List.eq_nil_of_length_eq_zero h2.2⟩
  · refine .inr ⟨g, 0, cap, rfl, lt_of_heap hg, Nat.le_trans hn hc, fun i hi => ?_⟩
    have hv := flat1_get l i hi
    rw [Nat.zero_add, cell_of_row w g i cur 3 (0, 0) hg]
    rw [← ht, List.getElem?_take] at hv
    split at hv
    · simpa using hv
    · cases hv

theorem OwnI.nil (w : World) : OwnI w (.slice none 0 0) [] := World.ownsRow_nil _ _ _ _

theorem OwnI.keep {F : Nat → Prop} {w w' : World} {v : Value} {l : List Int} (h : OwnI w v l) (hK : Keep F w w') (hF : ∀ k, v.ownBlock = some k → ¬ F k) : OwnI w' v l := owns_keep h hK hF

theorem ReadI.keep {F : Nat → Prop} {w w' : World} {v : Value} {l : List Int} (h : ReadI w v l) (hK : Keep F w w') (hF : ∀ k, v.ownBlock = some k → ¬ F k) : ReadI w' v l := by
  obtain h | ⟨g, off, c, rfl, hg, hm, hc⟩ := h
  · exact .inl h
  · exact .inr ⟨g, off, c, rfl, Nat.lt_of_lt_of_le hg hK.size, hm, fun i hi => (hK.cell (p := ⟨g, off + i, none⟩) hg (hF g rfl)).trans (hc i hi)⟩

theorem OwnI.src {w : World} {v : Value} {l : List Int} (h : OwnI w v l) : Src w v l.length 1 (flat1 l) := owns_src h (flat1_one l)

theorem ReadI.src {w : World} {v : Value} {l : List Int} (h : ReadI w v l) (hn : v ≠ .slice none 0 0 → v.ownBlock ≠ none) : Src w v l.length 1 (flat1 l) := by
  obtain ⟨a, c, rfl, rfl⟩ | ⟨g, off, c, rfl, hg, hm, hc⟩ := h
  · by_cases h0 : (Value.slice a 0 c) = .slice none 0 0
    · exact .inl ⟨h0, rfl, rfl⟩
    · cases a with
      | none => exact absurd rfl (hn h0)
      | some a => exact .inr ⟨a, c, rfl, rfl, fun j u hu => by simp [flat1] at hu, by simp [flat1]⟩
  · refine .inr ⟨_, c, rfl, by simp [flat1], fun j u hu => ?_, flat1_one l⟩
    have hj : j < l.length := by
      have := (List.getElem?_eq_some_iff.1 hu).1
      rwa [flat1_length] at this
    rw [flat1_get l j hj] at hu
    cases hu
    have hadd : (⟨g, off, none⟩ : Addr).add j = ⟨g, off + j, none⟩ := by unfold Addr.add; split <;> simp_all
    rw [hadd]; exact hc j hj

/-- Where t is first; -1: nowhere. -/
def idx (l : List Int) (t : Int) : Int := if t ∈ l then (l.idxOf t : Nat) else -1

theorem idx_none {l : List Int} {t : Int} (h : ∀ i, i < l.length → nth l i ≠ t) : idx l t = -1 := by
  unfold idx
  rw [if_neg]
  intro hm
  obtain ⟨i, hi, he⟩ := List.mem_iff_getElem.1 hm
  exact h i hi (by rw [nth_get l i hi]; exact he)

theorem idx_some {l : List Int} {t : Int} {k : Nat} (hk : k < l.length) (he : nth l k = t) (hno : ∀ i, i < k → nth l i ≠ t) : idx l t = k := by
  have hm : t ∈ l := by rw [← he, nth_get l k hk]; exact List.getElem_mem hk
  unfold idx
  rw [if_pos hm]
  have h1 : l.idxOf t < l.length := List.idxOf_lt_length_iff.2 hm
  have h2 : l[l.idxOf t] = t := List.getElem_idxOf h1
  have : l.idxOf t = k := by
    rcases Nat.lt_trichotomy (l.idxOf t) k with h | h | h
    · exact absurd (by rw [nth_get l _ h1]; exact h2) (hno _ h)
    · exact h
    · exfalso
      have h3 := List.not_of_lt_findIdx (xs := l) (p := (· == t)) (i := k) (by exact h)
      rw [nth_get l k hk] at he
      simp [he] at h3
  rw [this]

set_option maxHeartbeats 400000 in
theorem index_any {w : World} {v : Value} {l : List Int} (t : Int) (h : ReadI w v l) :
    Calls Try.prog 61 #[v, .int .i64 t] w fun e w' => e = .returned (.int .i64 (idx l t)) ∧ w = w' := by
  obtain ⟨a, c, hv⟩ := h.form
  have H := hid h
  have V := hid hv
  rw [hv]
  clear h hv
  go_enter Try.func61, Try.ntmps61
  go_wp2
  go_loop [5, 8] (fun _ i => ∃ k : Nat, k ≤ l.length ∧ i = .int .i64 k ∧ (∀ j, j < k → nth l j ≠ t)) (fun _ i => l.length - (intOf i).toNat)
  case atStart => exact ⟨0, by omega, rfl, fun j h => absurd h (Nat.not_lt_zero j)⟩
  case round =>
    obtain ⟨k, hk, rfl, hno⟩ := hrel
    have N := hid hno
    by_cases hlt : k < l.length
    · obtain ⟨g, off, hav, hcell, hmax⟩ : ∃ g off, a = some ⟨g, off, none⟩ ∧ w.cell? ⟨g, off + k, none⟩ = some (.int .i64 (nth l k)) ∧ l.length ≤ maxLen := by
        obtain ⟨_, _, _, h0⟩ | ⟨g, off, c', h1, _, hm, hc⟩ := H.out
        · rw [h0] at hlt; simp at hlt
        · rw [V.out] at h1; cases h1; exact ⟨g, off, rfl, hc k hlt, hm⟩
      subst hav
      unfold maxLen at hmax
      clear hno
      go_wp2
      · have ht : (t == nth l k) = true := by assumption
        have e : idx l t = k := idx_some hlt (by have := ht; simp at this; exact this.symm) N.out
        have E := hid e
        go_ret
        exact ⟨by rw [E.out]; rfl, rfl⟩
      · have ht : (t == nth l k) = false := by assumption
        go_round
        case rel =>
          refine ⟨k + 1, by omega, by go_num, fun j hj => ?_⟩
          by_cases e : j = k
          · subst e; intro h; simp [h] at ht
          · exact N.out j (by omega)
        case measure => simp [intOf]; omega
    · have e : idx l t = -1 := idx_none (fun i hi => hno i (by omega))
      have E := hid e
      clear hno e
      go_wp2
      go_ret
      exact ⟨by rw [E.out]; rfl, rfl⟩

theorem idx_ge (l : List Int) (t : Int) : decide (idx l t ≥ 0) = decide (t ∈ l) := by
  unfold idx
  split
  · rename_i h; simp [h]
  · rename_i h; simp [h]

set_option maxHeartbeats 400000 in
theorem contains_any {w : World} {v : Value} {l : List Int} (t : Int) (h : ReadI w v l) :
    Calls Try.prog 60 #[v, .int .i64 t] w fun e w' => e = .returned (.bool (decide (t ∈ l))) ∧ w = w' := by
  obtain ⟨a, c, rfl⟩ := h.form
  have E := hid (idx_ge l t)
  have H := hid h
  clear h
  go_enter Try.func60, Try.ntmps60
  go_wp2_with fail
  refine (index_any t H.out).mono ?_
  rintro _ _ ⟨rfl, rfl⟩
  go_wp2
  go_ret
  exact ⟨by rw [← E.out]; simp, rfl⟩

set_option maxHeartbeats 400000 in
theorem clip_any {w : World} (a : Option Addr) (n c : Nat) (h : n ≤ c) :
    Calls Try.prog 40 #[.slice a n c] w fun e w' => e = .returned (.slice a n n) ∧ w = w' := by
  go_enter Try.func40, Try.ntmps40
  go_wp2
  go_ret
  exact ⟨rfl, rfl⟩

theorem Try.infoI : (Try.prog.info? 3).map (fun i => (i.zero, i.size, i.bytes)) = some (some (.int .i64 0), 1, 8) := by kernel_rfl

theorem made_rowI (w : World) : (w.alloc (.cells #[] 3)).ownsRow 0 3 1 (.slice (some ⟨w.heap.size, 0, none⟩) 0 0) 0 [] := World.ownsRow_made w #[] 0 (Nat.zero_le _) (by simp [maxLen]) (by simp)

set_option maxHeartbeats 400000 in
theorem clone_any {w : World} {v : Value} {l : List Int} (h : OwnI w v l) (hn : l.length ≤ 1000000) :
    Calls Try.prog 49 #[v] w fun e w' => ∃ v', e = .returned v' ∧ OwnI w' v' l ∧ (∀ k, v'.ownBlock = some k → w.heap.size ≤ k) ∧ Keep (fun _ => False) w w' := by
  have hsrc := h.src
  have hform := h.2
  obtain ⟨i0, hi, hz0, hz1, hz2⟩ := info_parts Try.infoI
  have hi := hid hi
  have hz0 := hid hz0
  have hz1 := hid hz1
  have hz2 := hid hz2
  rcases hform with ⟨rfl, h0⟩ | ⟨g, cap, cur, rfl, _⟩
  · have hl : l = [] := List.eq_nil_of_length_eq_zero h0
    subst hl
    have e1 : ∀ W, (binOp .eql 27 (.slice none 0 0) (.slice none 0 0)).run Try.prog W = .ok (.bool true) W := fun W => by kernel_rfl
    clear h hsrc
    go_enter Try.func49, Try.ntmps49
    go_wp2
    go_ret
    exact ⟨_, rfl, OwnI.nil _, fun k hk => by simp [Value.ownBlock] at hk, Keep.refl _ _⟩
  · have e1 : ∀ W, (binOp .eql 27 (.slice (some ⟨g, 0, none⟩) l.length cap) (.slice none 0 0)).run Try.prog W = .ok (.bool false) W := fun W => by kernel_rfl
    have hs := hsrc.keep (F := fun _ => False) ((Keep.refl _ _).alloc (.cells #[] 3)) (fun _ _ h => h)
    have HS := hid hs
    clear h hsrc hs
    go_enter Try.func49, Try.ntmps49
    go_wp2_with (at_builtin; refine wpList_plain rfl (fun K hK => wp_append_src _ (.tmp 5) (.tmp 6) 27 rfl 0 3 i0 (.int .i64 0) 1 8 Try.underlying27 hi.out hz0.out hz1.out hz2.out rfl (by decide) _ 0 [] rfl (made_rowI w) _ l.length (flat1 l) rfl HS.out (by unfold maxLen; omega) (by omega) (Nat.zero_le _) ?_))
    intro v1 w1 o1 g1 f1
    refine hK _ _ ?_
    clear hK K
    have K1 : Keep (fun _ => False) w w1 := ((Keep.refl _ _).alloc _).grown g1 (fun k hk => .inr (Nat.le_of_eq (Option.some.inj hk)))
    obtain ⟨a1, c1, rfl⟩ := owns_form o1
    have O1 := hid o1
    have F1 := hid f1
    clear o1 g1 f1
    go_wp2
    go_ret
    refine ⟨_, rfl, ?_, fun k hk => ?_, K1⟩
    · have := O1.out
      unfold OwnI
      simpa using this
    · rcases F1.out k hk with h | h
      · exact Nat.le_of_eq (Option.some.inj h)
      · try simp at h
        omega

set_option maxHeartbeats 400000 in
theorem ints_some {w : World} (l m : List Int) (g o c g' o' c' : Nat) (hlm : l.length = m.length) (hmax : l.length ≤ maxLen) (hg : g < w.heap.size) (hg' : g' < w.heap.size)
    (h : ∀ i, i < l.length → w.cell? ⟨g, o + i, none⟩ = some (.int .i64 (nth l i)))
    (h' : ∀ i, i < m.length → w.cell? ⟨g', o' + i, none⟩ = some (.int .i64 (nth m i))) :
    Calls Try.prog 23 #[.slice (some ⟨g, o, none⟩) l.length c, .slice (some ⟨g', o', none⟩) m.length c'] w fun en w' => en = .returned (.bool (decide (l = m))) ∧ Keep (fun _ => False) w w' := by
  unfold maxLen at hmax
  have hl0 : ((l.length : Int) == (m.length : Int)) = true := by simp [hlm]
  have hl1 : ((l.length : Int) != (m.length : Int)) = false := by simp [hlm]
  have HL := hid hlm
  clear hlm
  go_enter Try.func23, Try.ntmps23
  go_wp2
  go_loopw [5] (fun i wr => ∃ k : Nat, k ≤ l.length ∧ i = .int .i64 k ∧ (∀ j, j < k → nth l j = nth m j) ∧ Keep (fun _ => False) w wr) (fun i _ => l.length - (intOf i).toNat)
  case atStart => exact ⟨0, by omega, rfl, fun j h => absurd h (Nat.not_lt_zero j), Keep.refl _ _⟩
  case round =>
    obtain ⟨k, hk, rfl, hno, hK⟩ := hrel
    by_cases hlt : k < l.length
    · have hlt' : k < m.length := by have := HL.out; omega
      have a1 := (hK.cell (p := ⟨g, o + k, none⟩) hg (fun h => h)).trans (h k hlt)
      have b1 := (hK.cell (p := ⟨g', o' + k, none⟩) hg' (fun h => h)).trans (h' k hlt')
      have HK := hid hK
      have HN := hid hno
      clear h h' hK hno
      go_wp2
      refine wp_region_text [0,0,0,1,0,0,0,1,0] (fun _ => True) (by kernel_rfl) (by kernel_rfl) trivial ?_
      repeat (first
        | (refine' wpT_calm (v := _) (by rfl) (fun W hW => ?_) ?_; rotate_left
           · ((try dsimp only at hW); go_simp; first | done | rfl)
           simp only [Act.put, List.setIfInBounds_toArray, List.set_cons_zero, List.set_cons_succ])
        | (refine' wpT_reads (v := _) (by rfl) ?_ ?_; rotate_left
           · (go_simp; first | done | rfl)
           simp only [Act.put, List.setIfInBounds_toArray, List.set_cons_zero, List.set_cons_succ])
        | (refine wpT_skip (by rfl) rfl ?_; simp only [Act.put, List.setIfInBounds_toArray, List.set_cons_zero, List.set_cons_succ])
        | (refine wpT_does (by rfl) (fun K hK => ?_); go_simp; refine hK _ _ ?_ ?_
           · (trivial)
           clear hK K; try simp only [Act.put, List.setIfInBounds_toArray, List.set_cons_zero, List.set_cons_succ])
        | (refine wpT_last (by rfl) (fun K hK => ?_); go_simp; refine hK _ _ ?_; clear hK K)
        | (refine wpT_nil ?_))
      go_wp2
      · have hne : (nth l k != nth m k) = true := by assumption
        have hf : decide (l = m) = false := decide_eq_false fun e => by subst e; simp at hne
        have HF := hid hf
        clear hf
        go_ret
        exact ⟨by rw [HF.out]; rfl, HK.out.drew⟩
      · have hne : (nth l k != nth m k) = false := by assumption
        have he : nth l k = nth m k := by simpa using hne
        have HE := hid he
        clear he
        go_roundw
        case rel =>
          refine ⟨k + 1, by omega, by go_num, fun j hj => ?_, HK.out.drew⟩
          by_cases e : j = k
          · subst e; exact HE.out
          · exact HN.out j (by omega)
        case measure => simp [intOf]; omega
    · have ht : decide (l = m) = true := by
        refine decide_eq_true (List.ext_getElem HL.out fun j h1 h2 => ?_)
        have := hno j (by omega)
        rw [nth_get l j h1, nth_get m j h2] at this
        exact this
      have HT := hid ht
      have HK := hid hK
      clear h h' hK hno ht
      go_wp2
      go_ret
      exact ⟨by rw [HT.out]; rfl, HK.out⟩

set_option maxHeartbeats 400000 in
theorem ints_lens {w : World} (n n' : Nat) (a a' : Option Addr) (c c' : Nat) (hne : n ≠ n') :
    Calls Try.prog 23 #[.slice a n c, .slice a' n' c'] w fun en w' => en = .returned (.bool false) ∧ w = w' := by
  have h1 : ((n : Int) != (n' : Int)) = true := by simp; omega
  go_enter Try.func23, Try.ntmps23
  go_wp2
  go_ret
  exact ⟨rfl, rfl⟩

set_option maxHeartbeats 400000 in
theorem ints_none {w : World} (a a' : Option Addr) (c c' : Nat) :
    Calls Try.prog 23 #[.slice a 0 c, .slice a' 0 c'] w fun en w' => en = .returned (.bool true) ∧ w = w' := by
  go_enter Try.func23, Try.ntmps23
  go_wp2
  refine wp_loop_once ?_
  go_wp2
  go_ret
  exact ⟨rfl, rfl⟩

theorem ints_any {w : World} {l m : List Int} {v v' : Value} (h : ReadI w v l) (h' : ReadI w v' m) :
    Calls Try.prog 23 #[v, v'] w fun en w' => en = .returned (.bool (decide (l = m))) ∧ Keep (fun _ => False) w w' := by
  by_cases hl : l.length = m.length
  · rcases h with ⟨a, c, rfl, rfl⟩ | ⟨g, o, c, rfl, hg, hn, h⟩
    · have : m = [] := List.eq_nil_of_length_eq_zero (by simpa using hl.symm)
      subst this
      obtain ⟨a', c', rfl⟩ := h'.form
      exact (ints_none a a' c c').mono fun e w' ⟨x, y⟩ => ⟨by simpa using x, y ▸ Keep.refl _ _⟩
    · rcases h' with ⟨a', c', rfl, rfl⟩ | ⟨g', o', c', rfl, hg', hn', h'⟩
      · have : l = [] := List.eq_nil_of_length_eq_zero (by simpa using hl)
        subst this
        exact (ints_none _ a' c c').mono fun e w' ⟨x, y⟩ => ⟨by simpa using x, y ▸ Keep.refl _ _⟩
      · exact ints_some l m g o c g' o' c' hl hn hg hg' h h'
  · have hf : decide (l = m) = false := decide_eq_false fun e => hl (by rw [e])
    rw [hf]
    obtain ⟨a, c, rfl⟩ := h.form
    obtain ⟨a', c', rfl⟩ := h'.form
    exact (ints_lens _ _ a a' c c' hl).mono fun e w' ⟨x, y⟩ => ⟨x, y ▸ Keep.refl _ _⟩

end Go.Proofs.Ytegpoocmhamlpaa
