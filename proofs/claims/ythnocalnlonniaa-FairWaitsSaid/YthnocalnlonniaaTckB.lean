/- The walks of package tick: Cycle, held, Add. -/
import Derived.Test.YthnocalnlonniaaTckA
namespace Go.Proofs.Ythnocalnlonniaa
open Go Go.RowKit Go.Shelf

attribute [local go_sem] Oper.semAt_some

/-- The slot of an entry. -/
theorem SlotsR.ent {w : World} {a : Option Addr} {n c : Nat} {s : List (Int × Int)} (h : SlotsR w (.slice a n c) s) (e : EntS s) : ∃ g off, a = some ⟨g, off, none⟩ ∧ n = s.length ∧ e.1.n < s.length ∧ g < w.heap.size ∧ s.length ≤ maxLen ∧
    w.cell? ⟨g, off + e.1.n * 2, none⟩ = some (.int .i64 e.1.dom) ∧ w.cell? ⟨g, off + e.1.n * 2 + 1, none⟩ = some (.int .i64 e.1.len) := by
  have hm := entsOf_mem e.2
  obtain ⟨_, _, h1, rfl⟩ | ⟨g, off, c, h1, hg, h2, h3, hc⟩ := h
  · exact absurd hm.1 (by simp)
  · simp only [Value.slice.injEq] at h1
    obtain ⟨rfl, rfl, rfl⟩ := h1
    exact ⟨g, off, rfl, rfl, hm.1, hg, Nat.le_trans h2 h3, hc _ _ hm.2.2.1⟩

set_option maxRecDepth 100000 in
set_option maxHeartbeats 2000000 in
theorem cycle_any {w : World} {v : Value} {s : List (Int × Int)} (h : SlotsR w v s) :
    Calls Try.prog 15 #[v] w fun e w' => e = .returned (.int .i64 (cyc s)) ∧ Below w.heap.size w w' := by
  obtain ⟨a, c, hv⟩ := h.form
  subst hv
  refine (callsIn_wide (n := 4)).1 ?_
  have hro : Fence.wide.round = none := rfl
  have HS := hid h
  refine callsIn_of_wp_marks Try.func15 rfl trivial ?_ hro
  simp only [Try.ntmps15, List.size_toArray, List.length_cons, List.length_nil, Nat.reduceAdd, Nat.reduceSub, Array.replicate_succ, Array.replicate_zero, List.push_toArray, List.append_toArray, List.nil_append, List.cons_append]
  clear h
  gi_wp2_with (refine ⟨trivial, ?_⟩; gi_at_call 31; refine (counts_in Fence.wide (4 - 1) trivial hro _ _ _ _).mono ?_; rintro e w' ⟨rfl, rfl⟩)
  have bE := Boxed.new (w.alloc (.cells #[.slice a s.length c] 22)) 3 (.int .i64 0)
  have bL := Boxed.new w 22 (.slice a s.length c)
  have bN := Boxed.new ((w.alloc (.cells #[.slice a s.length c] 22)).alloc (.cells #[.int .i64 0] 3)) 22 (.slice a s.length c)
  rw [World.size_alloc] at bE bN
  rw [World.size_alloc] at bN
  have hB0 : Below w.heap.size w (((w.alloc (.cells #[.slice a s.length c] 22)).alloc (.cells #[.int .i64 0] 3)).alloc (.cells #[.slice a s.length c] 22)) := (((Below.refl _ w).alloc (Nat.le_refl _) _).alloc (by simp) _).alloc (by first | (simp; done) | (simp; omega)) _
  refine wpIn_rangeFunc_ownF hro (by omega) (gf := 37) (lb := #[.pointer (some ⟨w.heap.size + 2, 0, none⟩)]) rfl trivial (enters_of Try.func37 (by kernel_rfl) rfl)
    (counts_stops Fence.wide (4 - 1) trivial hro (by omega) (w.heap.size + 2) _ s w _ (by first | (simp; done) | (simp; omega)) bN.cell HS.out hB0) (fun h k => h.trans k) (fun W l o o' hl ho hc _ => KpS.book (by first | (simp; done) | (simp; omega)) W l o o' hl ho hc) (Below.refl _ _) (fun _ => rfl)
    (fun pre W => (W.cell? ⟨w.heap.size + 1, 0, none⟩ = some (.int .i64 (endOf (pre.map (·.1)))) ∧ W.frozen? ⟨w.heap.size + 1, 0, none⟩ = false ∧ W.cell? ⟨w.heap.size, 0, none⟩ = some (.slice a s.length c)) ∧ Below w.heap.size w W)
    (fun _ _ _ => False)
    (OwnFrom.and (Own.from (fun s A B row hs hg hr => ⟨cell_kept hs.1 hg hr, (frozen_kept hs.1 hg hr).trans hs.2.1, cell_kept hs.2.2 hg hr⟩) _) (ownFrom_below (Nat.le_refl _) (by first | (simp; done) | (simp; omega))))
    (fun _ _ _ _ _ hs _ _ => hs)
    ⟨⟨(bE.alloc _).cell, (bE.alloc _).frozen, ((bL.alloc _).alloc _).cell⟩, hB0⟩
    (fun x => { tmps := #[.slice a s.length c, .pointer (some ⟨w.heap.size, 0, none⟩), .int .i64 0, .pointer (some ⟨w.heap.size + 1, 0, none⟩), .int .i64 (x.1.n : Int), .int .i64 x.1.at_, .slice a s.length c, .func (.func 37) #[] #[.pointer (some ⟨w.heap.size + 2, 0, none⟩)], .int .i64 (x.1.n : Int), .int .i64 x.1.at_, undef, undef, undef, undef, undef, undef, undef, undef], defers := [] }) ?assign ?body ?done ?stop
  case assign =>
    intro l x W K hK
    gi_wp2
    exact hK
  case body =>
    rintro l pre x W ⟨⟨hc, hf, hl⟩, hB⟩ _
    obtain ⟨g, off, rfl, -, hns, hgw, hmx, k1, k2⟩ := HS.out.ent x
    have hm := entsOf_mem x.2
    have hcb := cyc_bd s
    have k2' := (hB.cell (p := ⟨g, off + x.1.n * 2 + 1, none⟩) hgw).trans k2
    obtain ⟨-, hn16, -, hl1, hl16, ha0, hac⟩ := hm
    unfold maxLen at hmx
    have HB := hid hB
    have e1 := hid (endOf_snoc (pre.map (·.1)) x.1)
    have hal : x.1.at_ ≤ 256 := by omega
    clear k1 k2 hB
    gi_wp2
    exact ⟨KeepsOthers.setCell _ _ _, (KpS.refl _ _ W).set (p := ⟨w.heap.size + 1, 0, none⟩) (by simp) (by simp) _, ⟨by rw [List.map_append]; show (World.cell? _ _) = some (Value.int .i64 (endOf (pre.map (·.1) ++ [x.1]))); rw [e1.out]; exact World.cell?_setCell_same' _ _ _ (by rw [hc]; rfl), by rw [World.frozen?_setCell]; exact hf, (World.cell?_setCell_other W ⟨w.heap.size + 1, 0, none⟩ ⟨w.heap.size, 0, none⟩ _ (by simp)).trans hl⟩, HB.out.setCell (p := ⟨w.heap.size + 1, 0, none⟩) (by simp) _⟩
  case done =>
    rintro D ys W hD hys ⟨⟨hc, hf, hl⟩, hB⟩ hK
    rw [hys, endOf_ents] at hc
    gi_wp2
    refine ⟨by simp, .inl ⟨_, _, rfl, run_takeDeferred hK, ?_⟩⟩
    exact ⟨_, results_tmp rfl _ _ _, rfl, hB.trans (belowK_b (w := w) (Nat.le_refl _) W D _ _ (by simp at hD; omega) hK rfl rfl)⟩
  case stop =>
    rintro D c pre W _ _ h _
    exact h.elim
end Go.Proofs.Ythnocalnlonniaa
