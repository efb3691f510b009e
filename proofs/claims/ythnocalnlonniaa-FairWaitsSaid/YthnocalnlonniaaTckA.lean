/- The walks of package tick: the iterator over the slots that count, and the length of a cycle. -/
import Derived.Test.YthnocalnlonniaaRows
import Derived.Test.YthnocalnlonniaaTck0
import Derived.Test.YthnocalnlonniaaFrm
import Derived.RangeFuncNested
import Derived.RangeFuncBound
import Derived.RangeFuncCalls
import Derived.RangeFuncLeaves
import Derived.RangeFuncBox
import Derived.Shelf.Abstract
import Derived.Shelf.RegionOpen
import Derived.WalkKit
import Derived.OwnWalkIn
import Derived.TacticsInMore
import Derived.LoopNIn
import Derived.LoopIn
import Derived.WalkLawsBesides
namespace Go.Proofs.Ythnocalnlonniaa
open Go Go.RowKit Go.Shelf

attribute [local go_sem] Oper.semAt_some

/-- A list of slots that can be read. -/
def SlotsR (w : World) (v : Value) (s : List (Int × Int)) : Prop :=
  (∃ a c, v = .slice a 0 c ∧ s = []) ∨ ∃ g off c, v = .slice (some ⟨g, off, none⟩) s.length c ∧ g < w.heap.size ∧ s.length ≤ c ∧ c ≤ maxLen ∧
    ∀ i p, s[i]? = some p → w.cell? ⟨g, off + i * 2, none⟩ = some (.int .i64 p.1) ∧ w.cell? ⟨g, off + i * 2 + 1, none⟩ = some (.int .i64 p.2)

theorem SlotsR.form {w : World} {v : Value} {s : List (Int × Int)} (h : SlotsR w v s) : ∃ a c, v = .slice a s.length c := by
  obtain ⟨a, c, rfl, rfl⟩ | ⟨g, off, c, rfl, _⟩ := h
  · exact ⟨a, c, rfl⟩
  · exact ⟨_, c, rfl⟩

theorem SlotsR.keep {F : Nat → Prop} {w w' : World} {v : Value} {s : List (Int × Int)} (h : SlotsR w v s) (hK : Keep F w w') (hF : ∀ k, v.ownBlock = some k → ¬ F k) : SlotsR w' v s := by
  obtain h | ⟨g, off, c, rfl, hg, h1, h2, hc⟩ := h
  · exact .inl h
  · exact .inr ⟨g, off, c, rfl, Nat.lt_of_lt_of_le hg hK.size, h1, h2, fun i p hp => ⟨(hK.cell (p := ⟨g, off + i * 2, none⟩) hg (hF g rfl)).trans (hc i p hp).1, (hK.cell (p := ⟨g, off + i * 2 + 1, none⟩) hg (hF g rfl)).trans (hc i p hp).2⟩⟩

abbrev EntS (s : List (Int × Int)) := { e : Ent // e ∈ entsOf s }

theorem ents_take_mem {s : List (Int × Int)} {k : Nat} {e : Ent} (h : e ∈ ents 0 0 ((s.take 16).take k)) : e ∈ entsOf s := by
  unfold entsOf
  rw [← List.take_append_drop k (s.take 16), ents_append]
  exact List.mem_append_left _ h

def subK (s : List (Int × Int)) (k : Nat) : List (EntS s) := (ents 0 0 ((s.take 16).take k)).attach.map fun e => ⟨e.1, ents_take_mem e.2⟩

theorem subK_val (s : List (Int × Int)) (k : Nat) : (subK s k).map (·.1) = ents 0 0 ((s.take 16).take k) := by
  unfold subK
  rw [List.map_map]
  exact List.attach_map_subtype_val _

theorem sub_ext {s : List (Int × Int)} {l m : List (EntS s)} (h : l.map (·.1) = m.map (·.1)) : l = m :=
  (List.map_inj_right fun _ _ e => Subtype.ext e).1 h

theorem subK_len (s : List (Int × Int)) (k : Nat) : (subK s k).length ≤ k := by
  have h : (subK s k).length = (ents 0 0 ((s.take 16).take k)).length := by rw [← subK_val, List.length_map]
  have : ∀ (u : List (Int × Int)) n f, (ents n f u).length ≤ u.length := by
    intro u
    induction u with
    | nil => intro n f; exact Nat.le_refl 0
    | cons p u ih =>
      intro n f
      obtain ⟨d, l⟩ := p
      rw [ents_cons]
      split
      · have := ih (n + 1) (f + l); simp; omega
      · have := ih (n + 1) f; simp; omega
  have h2 := this ((s.take 16).take k) 0 0
  rw [h]
  exact Nat.le_trans h2 (List.length_take_le _ _)

/-- The tick at which the slot of place k begins. -/
def fromK (s : List (Int × Int)) (k : Nat) : Int := total (ents 0 0 ((s.take 16).take k))

theorem fromK_bd (s : List (Int × Int)) (k : Nat) (hk : k ≤ 16) : 0 ≤ fromK s k ∧ fromK s k ≤ 256 := by
  have h := total_nonneg ((s.take 16).take k) 0 0
  have h2 : ((s.take 16).take k).length ≤ k := List.length_take_le _ _
  unfold fromK
  omega

theorem take_more (s : List (Int × Int)) (k : Nat) (hk : k < (s.take 16).length) (d l : Int) (hp : s[k]? = some (d, l)) : (s.take 16).take (k + 1) = (s.take 16).take k ++ [(d, l)] := by
  rw [List.take_succ_eq_append_getElem hk]
  have : (s.take 16)[k] = (d, l) := by
    rw [List.getElem_take]
    have h1 := (List.getElem?_eq_some_iff.1 hp).2
    exact h1
  rw [this]

theorem step_no (s : List (Int × Int)) (k : Nat) (hk : k < (s.take 16).length) (d l : Int) (hp : s[k]? = some (d, l)) (hl : ¬ (1 ≤ l ∧ l ≤ 16)) : subK s (k + 1) = subK s k ∧ fromK s (k + 1) = fromK s k := by
  have h : ents 0 0 ((s.take 16).take (k + 1)) = ents 0 0 ((s.take 16).take k) := by
    rw [take_more s k hk d l hp, ents_append, ents_cons, if_neg hl]
    simp [ents]
  exact ⟨sub_ext (by rw [subK_val, subK_val, h]), by unfold fromK; rw [h]⟩

theorem step_yes (s : List (Int × Int)) (k : Nat) (hk : k < (s.take 16).length) (d l : Int) (hp : s[k]? = some (d, l)) (hl : 1 ≤ l ∧ l ≤ 16) :
    ∃ e : EntS s, e.1.n = k ∧ e.1.at_ = fromK s k ∧ subK s (k + 1) = subK s k ++ [e] ∧ fromK s (k + 1) = fromK s k + l := by
  have hlen : ((s.take 16).take k).length = k := by rw [List.length_take]; omega
  have h : ents 0 0 ((s.take 16).take (k + 1)) = ents 0 0 ((s.take 16).take k) ++ [⟨k, fromK s k, d, l⟩] := by
    rw [take_more s k hk d l hp, ents_append, ents_cons, if_pos hl, hlen]
    simp [ents, fromK]
  refine ⟨⟨⟨k, fromK s k, d, l⟩, ents_take_mem (k := k + 1) (by rw [h]; simp)⟩, rfl, rfl, sub_ext ?_, ?_⟩
  · rw [subK_val, List.map_append, subK_val]; exact h
  · have : fromK s (k + 1) = total (ents 0 0 ((s.take 16).take (k + 1))) := rfl
    rw [this, h, total_append]
    simp [total, fromK]

theorem subK_all (s : List (Int × Int)) (k : Nat) (hk : (s.take 16).length ≤ k) : (subK s k).map (·.1) = entsOf s := by
  rw [subK_val, List.take_of_length_le hk]; rfl

/-- What a round keeps: all below n₀, and all cells that came since the loop began. -/
structure KpS (n₀ B : Nat) (W W' : World) : Prop where
  below : Below n₀ W W'
  cells : ∀ k o, B ≤ k → W.heap[k]? = some o → o.isCells = true → W'.heap[k]? = some o

theorem KpS.trans {n₀ B : Nat} {a b c : World} (h : KpS n₀ B a b) (k : KpS n₀ B b c) : KpS n₀ B a c :=
  ⟨h.below.trans k.below, fun i o hi ho hc => k.cells i o hi (h.cells i o hi ho hc) hc⟩
theorem KpS.refl (n₀ B : Nat) (w : World) : KpS n₀ B w w := ⟨Below.refl _ _, fun _ _ _ h _ => h⟩
theorem KpS.book {n₀ B : Nat} (hn : n₀ ≤ B) (W : World) (l : Nat) (o o' : Obj) (hl : B ≤ l) (h : W.heap[l]? = some o) (hc : o.isCells = false) : KpS n₀ B W (W.putObj l o') := by
  refine ⟨(Below.refl n₀ W).grown (grownBy_putObj' W l o') (by have := (Array.getElem?_eq_some_iff.1 h).1; omega) (fun k e => by cases e; omega), fun k u hk hu hcu => ?_⟩
  by_cases e : k = l
  · subst e; rw [h] at hu; cases hu; rw [hc] at hcu; cases hcu
  · rw [World.putObj_heap_other e]; exact hu
theorem KpS.drew {n₀ B : Nat} {W W' : World} (h : KpS n₀ B W W') : KpS n₀ B W W'.drew := ⟨h.below.drew, h.cells⟩
theorem KpS.set {n₀ B : Nat} {W W' : World} (h : KpS n₀ B W W') {p : Addr} (h1 : n₀ ≤ p.block) (h2 : p.block < B) (u : Value) : KpS n₀ B W (W'.setCell p u) :=
  ⟨h.below.setCell h1 u, fun k o hk ho hc => by rw [Below.heap_setCell _ _ _ _ (by omega)]; exact h.cells k o hk ho hc⟩

set_option maxRecDepth 100000 in
set_option maxHeartbeats 2000000 in
/-- The iterator's closure, whatever body keeps what lay below n₀. -/
theorem counts1_in (F : Fence) (n : Nat) (h7 : F.fn 37) (hro : F.round = none) (hn : 1 ≤ n) (l Bs n₀ B g off cap : Nat) (s : List (Int × Int)) (hcap : s.length ≤ cap) (hmx : cap ≤ maxLen) (hg : g < n₀) (J Jx : List (EntS s) → World → Prop)
    (hY : ∀ pre x W, J pre W → pre.length < 16 → YieldAt F (n - 1) Try.prog l #[.int .i64 (x.1.n : Int), .int .i64 x.1.at_] W fun e W' =>
      (e = .returned (.bool true) ∧ J (pre ++ [x]) W' ∧ KpS n₀ B W W') ∨ (e = .returned (.bool false) ∧ Jx (pre ++ [x]) W'))
    (W : World) (hn₀ : n₀ ≤ B) (hBW : B ≤ W.heap.size) (hJ : AbidesFrom W.heap.size J) (hBs : W.cell? ⟨Bs, 0, none⟩ = some (.slice (some ⟨g, off, none⟩) s.length cap))
    (hc : ∀ i p, s[i]? = some p → W.cell? ⟨g, off + i * 2, none⟩ = some (.int .i64 p.1) ∧ W.cell? ⟨g, off + i * 2 + 1, none⟩ = some (.int .i64 p.2)) (h0 : J [] W) :
    CallsIn F n Try.prog 37 #[.func (.yield l) #[] #[], .pointer (some ⟨Bs, 0, none⟩)] W fun e W' => (∃ v, e = .returned v) ∧
      ((∃ ys, ys.map (·.1) = entsOf s ∧ J ys W') ∨ (∃ pre, True ∧ Jx pre W')) := by
  unfold maxLen at hmx
  have HC := hid hc
  have HJ := hid hJ
  clear hc hJ
  refine callsIn_of_wp Try.func37 rfl h7 ?_ hro
  simp only [Try.ntmps37, List.size_toArray, List.length_cons, List.length_nil, Nat.reduceAdd, Nat.reduceSub, Array.replicate_succ, Array.replicate_zero, List.push_toArray, List.append_toArray, List.nil_append, List.cons_append]
  have hM : (s.take 16).length = min 16 s.length := List.length_take
  have HM := hid hM
  clear hM
  gi_wp2
  all_goals
    gi_loopw [3, 12] (fun f i wr => ∃ k : Nat, k ≤ (s.take 16).length ∧ i = .int .i64 k ∧ f = .int .i64 (fromK s k) ∧ J (subK s k) wr ∧ Below n₀ W wr)
      (fun _ i _ => 16 - (intOf i).toNat)
    case atStart => exact ⟨0, Nat.zero_le _, rfl, rfl, h0, Below.refl _ _⟩
    case round =>
      obtain ⟨k, hk, rfl, rfl, hJs, hnx⟩ := hrel
      have hk16 : k ≤ 16 := by have := HM.out; omega
      have hfb := fromK_bd s k hk16
      obtain ⟨hf0, hf1⟩ := hfb
      by_cases hlt : k < (s.take 16).length
      · have hks : k < s.length := by have := HM.out; omega
        have hk6 : k < 16 := by have := HM.out; omega
        obtain ⟨⟨d, x⟩, hp⟩ : ∃ p, s[k]? = some p := ⟨_, List.getElem?_eq_getElem hks⟩
        have hcx := HC.out k _ hp
        have c1 := (hnx.cell (p := ⟨g, off + k * 2, none⟩) hg).trans hcx.1
        have c2 := (hnx.cell (p := ⟨g, off + k * 2 + 1, none⟩) hg).trans hcx.2
        dsimp only at c1 c2
        have hJn := HJ.out _ _ (wr.alloc (.cells #[.int .i64 d, .int .i64 x] 35)) none hJs (World.grownBy_alloc _ _ _) (fun r e => by cases e)
        have hnx2 := hnx.alloc (Nat.le_trans hn₀ (Nat.le_trans hBW hnx.size)) (.cells #[.int .i64 d, .int .i64 x] 35)
        have hBr : B ≤ wr.heap.size := Nat.le_trans hBW hnx.size
        by_cases hl : 1 ≤ x ∧ x ≤ 16
        · obtain ⟨e, he1, he2, he3, he4⟩ := step_yes s k hlt d x hp hl
          obtain ⟨fn, tmps, assign, body, hy, hR⟩ := hY _ e _ hJn (Nat.lt_of_le_of_lt (subK_len s k) hk6)
          rw [he1, he2] at hy
          have hl1 := hl.1
          have hl2 := hl.2
          have HE3 := hid he3
          have HE4 := hid he4
          clear hcx he1 he2 he3 he4 hp hlt
          gi_wp2
          refine hR.mono ?_
          rintro _ W3 (⟨rfl, hJ3, hk3⟩ | ⟨rfl, hJx3⟩)
          · have hx3 := hk3.cells wr.heap.size _ hBr (World.alloc_heap_new wr _) rfl
            have cx : W3.cell? ⟨wr.heap.size, 1, none⟩ = some (.int .i64 x) := by rw [cell_of_row W3 _ _ _ _ _ hx3]; rfl
            have KB := hid (hnx2.trans hk3.below)
            have J3 := hid hJ3
            clear hk3 hJ3 hx3 hnx2 hJn hJs hnx c1 c2
            gi_wp2
            go_roundw
            case rel => exact ⟨k + 1, by have := HM.out; omega, by go_num, by rw [HE4.out], by rw [HE3.out]; exact J3.out, KB.out⟩
            case measure => simp [intOf]; omega
          · clear hnx2 hJn hJs hnx c1 c2
            gi_wp2
            refine bodyPost_ret (results_none rfl _ _ _) rfl ?_
            exact ⟨⟨_, rfl⟩, .inr ⟨_, trivial, hJx3⟩⟩
        · obtain ⟨he3, he4⟩ := step_no s k hlt d x hp hl
          have HE3 := hid he3
          have HE4 := hid he4
          have J3 := hid hJn
          have KB := hid hnx2
          have hx : x < 1 ∨ 1 ≤ x ∧ 16 < x := by omega
          clear hcx he3 he4 hp hlt hl hnx2 hJn hJs hnx
          rcases hx with hx | ⟨hx1, hx2⟩
          all_goals
            gi_wp2
            go_roundw
            case rel => exact ⟨k + 1, by have := HM.out; omega, by go_num, by rw [HE4.out], by rw [HE3.out]; exact J3.out, KB.out⟩
            case measure => simp [intOf]; omega
      · have hall := subK_all s k (by omega)
        have HA := hid hall
        have hM2 := HM.out
        clear hall
        first
          | (have hx : ¬ (k : Int) < (s.length : Int) := by omega
             have hx2 : s.length ≤ 16 := by omega)
          | (have hx : ¬ (k : Int) < 16 := by omega)
        clear hM2 hlt
        gi_wp2
        go_end0
        exact ⟨⟨_, rfl⟩, .inl ⟨_, HA.out, hJs⟩⟩

set_option maxRecDepth 100000 in
set_option maxHeartbeats 1000000 in
theorem counts1_nil (F : Fence) (n : Nat) (h7 : F.fn 37) (hro : F.round = none) (l Bs : Nat) (a : Option Addr) (c : Nat) (J : List (EntS []) → World → Prop) (W : World) (hBs : W.cell? ⟨Bs, 0, none⟩ = some (.slice a 0 c)) (h0 : J [] W) :
    CallsIn F n Try.prog 37 #[.func (.yield l) #[] #[], .pointer (some ⟨Bs, 0, none⟩)] W fun e W' => (∃ v, e = .returned v) ∧ J [] W' := by
  refine callsIn_of_wp Try.func37 rfl h7 ?_ hro
  simp only [Try.ntmps37, List.size_toArray, List.length_cons, List.length_nil, Nat.reduceAdd, Nat.reduceSub, Array.replicate_succ, Array.replicate_zero, List.push_toArray, List.append_toArray, List.nil_append, List.cons_append]
  gi_wp2
  gi_loopw [12] (fun i wr => i = .int .i64 0 ∧ J [] wr) (fun _ _ => 0)
  case atStart => exact ⟨rfl, h0⟩
  case round =>
    obtain ⟨rfl, hJs⟩ := hrel
    gi_wp2
    go_end0
    exact ⟨⟨_, rfl⟩, hJs⟩

set_option maxHeartbeats 1000000 in
/-- The iterator: the list is boxed; the function value captures the box. -/
theorem counts_in (F : Fence) (n : Nat) (h5 : F.fn 31) (hro : F.round = none) (a : Option Addr) (len cap : Nat) (w : World) :
    CallsIn F n Try.prog 31 #[.slice a len cap] w fun e w' => e = .returned (.func (.func 37) #[] #[.pointer (some ⟨w.heap.size, 0, none⟩)]) ∧ w' = w.alloc (.cells #[.slice a len cap] 22) := by
  refine callsIn_of_wp Try.func31 rfl h5 ?_ hro
  simp only [Try.ntmps31, List.size_toArray, List.length_cons, List.length_nil, Nat.reduceAdd, Nat.reduceSub, Array.replicate_succ, Array.replicate_zero, List.push_toArray, List.append_toArray, List.nil_append, List.cons_append]
  gi_wp2
  go_ret
  exact ⟨rfl, rfl⟩

/-- All slots that count come, in order. -/
theorem counts_stops (F : Fence) (n : Nat) (h7 : F.fn 37) (hro : F.round = none) (hn : 1 ≤ n) (Bs : Nat) (v : Value) (s : List (Int × Int)) (w1 w : World) (hBs : Bs < w.heap.size)
    (hc : w.cell? ⟨Bs, 0, none⟩ = some v) (hI : SlotsR w1 v s) (hB : Below w1.heap.size w1 w) :
    SeqStopsK F n Try.prog 37 #[.pointer (some ⟨Bs, 0, none⟩)] (fun x : EntS s => #[.int .i64 (x.1.n : Int), .int .i64 x.1.at_]) (KpS w1.heap.size w.heap.size) (fun ys => ys.map (·.1) = entsOf s) (fun _ => True) 16 w := fun l J Jx W hW hJ _ hY h0 => by
  have hc' := (hW.cell (p := ⟨Bs, 0, none⟩) hBs).trans hc
  have hB2 := hB.trans (hW.mono hB.size)
  rcases hI with ⟨a, c, rfl, rfl⟩ | ⟨g, off, cap, rfl, hgw, h1, h2, hcs⟩
  · exact (counts1_nil F n h7 hro l Bs a c J W hc' h0).mono fun e W' ⟨he, hj⟩ => ⟨he, .inl ⟨[], rfl, hj⟩⟩
  · exact counts1_in F n h7 hro hn l Bs w1.heap.size w.heap.size g off cap s h1 h2 hgw J Jx hY W hB.size hW.size hJ hc' (fun i p hp => ⟨(hB2.cell (p := ⟨g, off + i * 2, none⟩) hgw).trans (hcs i p hp).1, (hB2.cell (p := ⟨g, off + i * 2 + 1, none⟩) hgw).trans (hcs i p hp).2⟩) h0
end Go.Proofs.Ythnocalnlonniaa
