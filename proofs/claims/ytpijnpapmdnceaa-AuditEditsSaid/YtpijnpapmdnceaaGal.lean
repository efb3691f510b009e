/- Unlike records have unlike bytes. Law 21: AuditBytes (printed by gen_audy.py). -/
import Derived.Test.YtpijnpapmdnceaaGaj
import Derived.Test.YtpijnpapmdnceaaGaa

namespace Go.Proofs.Ytpijnpapmdnceaa
open Go Go.RowKit

theorem nb_inj {x y : Int} (hx : Ok64 x) (hy : Ok64 y) (h : ∀ k, k < 8 → nb x k = nb y k) : x = y := by
  have hb : BitVec.ofInt 64 x = BitVec.ofInt 64 y := by
    apply BitVec.eq_of_getLsbD_eq
    intro i hi
    have h1 := h (i / 8) (by omega)
    have h2 := congrArg (fun b => b.getLsbD (i % 8)) h1
    simp only [nb, BitVec.getLsbD_setWidth, BitVec.getLsbD_ushiftRight] at h2
    have e : 8 * (i / 8) + i % 8 = i := by omega
    rw [e] at h2
    simpa [show i % 8 < 8 from by omega] using h2
  have h3 := congrArg BitVec.toInt hb
  rw [BitVec.toInt_ofInt, BitVec.toInt_ofInt] at h3
  obtain ⟨a1, a2⟩ := hx
  obtain ⟨b1, b2⟩ := hy
  simp only [Int.bmod] at h3
  omega
theorem num8_inj {x y : Int} (hx : Ok64 x) (hy : Ok64 y) (h : num8 x 8 = num8 y 8) : x = y := by
  refine nb_inj hx hy fun k hk => ?_
  have h1 := congrArg (fun l => l[k]?) h
  simp only [num8, List.getElem?_map, List.getElem?_range hk, Option.map_some, Option.some.injEq] at h1
  exact h1
theorem byl_inj : ∀ (l m : List Int), l.length = m.length → (∀ n ∈ l, Ok64 n) → (∀ n ∈ m, Ok64 n) → byl l = byl m → l = m
  | [], [], _, _, _, _ => rfl
  | x :: l, y :: m, hlen, hx, hy, h => by
    have h1 : num8 x 8 ++ byl l = num8 y 8 ++ byl m := h
    obtain ⟨h2, h3⟩ := List.append_inj h1 (by rw [num8_len, num8_len])
    rw [num8_inj (hx x List.mem_cons_self) (hy y List.mem_cons_self) h2, byl_inj l m (by simpa using hlen) (fun n hn => hx n (List.mem_cons_of_mem _ hn)) (fun n hn => hy n (List.mem_cons_of_mem _ hn)) h3]
theorem byt_inj {a b : Rc} (ha : WfR a) (hb : WfR b) (h : a.byt = b.byt) : a = b := by
  have := byl_inj a.nums b.nums rfl ha hb h
  cases a
  cases b
  simp only [Rc.nums, List.cons.injEq, and_true] at this
  obtain ⟨h1, h2, h3, h4, h5, h6, h7, h8, h9, h10⟩ := this
  subst h1 h2 h3 h4 h5 h6 h7 h8 h9 h10
  rfl
set_option maxRecDepth 10000 in
theorem rec_eql (x y : Rc) (W : World) : (binOp .eql 42 x.agg y.agg).run Try.prog W = .ok (.bool (decide (x = y))) W := by
  have e : decide (x = y) = (decide (x.s = y.s) && (decide (x.t = y.t) && (decide (x.c = y.c) && (decide (x.o = y.o) && (decide (x.e = y.e) && (decide (x.n = y.n) && (decide (x.m = y.m) && (decide (x.a = y.a) && (decide (x.b = y.b) && decide (x.d = y.d)))))))))) := by
    cases x; cases y; simp [Bool.eq_iff_iff]
  rw [e]
  unfold Rc.agg
  go_simp
  by_cases h1 : x.s = y.s
  · by_cases h2 : x.t = y.t
    · by_cases h3 : x.c = y.c
      · by_cases h4 : x.o = y.o
        · by_cases h5 : x.e = y.e
          · by_cases h6 : x.n = y.n
            · by_cases h7 : x.m = y.m
              · by_cases h8 : x.a = y.a
                · by_cases h9 : x.b = y.b
                  · by_cases h10 : x.d = y.d
                    · simp [h1, h2, h3, h4, h5, h6, h7, h8, h9, h10]
                    · simp [h1, h2, h3, h4, h5, h6, h7, h8, h9, h10]
                  · simp [h1, h2, h3, h4, h5, h6, h7, h8, h9]
                · simp [h1, h2, h3, h4, h5, h6, h7, h8]
              · simp [h1, h2, h3, h4, h5, h6, h7]
            · simp [h1, h2, h3, h4, h5, h6]
          · simp [h1, h2, h3, h4, h5]
        · simp [h1, h2, h3, h4]
      · simp [h1, h2, h3]
    · simp [h1, h2]
  · simp [h1]
end Go.Proofs.Ytpijnpapmdnceaa

namespace Go.Proofs.Ytpijnpapmdnceaa
open Go Go.RowKit

def BothAt (g : Nat) (a b : Rc) (W : World) : Prop := (∀ j u, a.cells[j]? = some u → W.cell? ⟨g, j, none⟩ = some u) ∧ (∀ j u, b.cells[j]? = some u → W.cell? ⟨g + 1, j, none⟩ = some u) ∧ g + 1 < W.heap.size
theorem BothAt.keep {g : Nat} {a b : Rc} {W W' : World} (h : BothAt g a b W) (hK : Keep (fun _ => False) W W') : BothAt g a b W' := by
  obtain ⟨h1, h2, h3⟩ := h
  exact ⟨fun j u hu => (hK.cell (p := ⟨g, j, none⟩) (by dsimp only; omega) (fun h => h)).trans (h1 j u hu), fun j u hu => (hK.cell (p := ⟨g + 1, j, none⟩) h3 (fun h => h)).trans (h2 j u hu), Nat.lt_of_lt_of_le h3 hK.size⟩

set_option maxRecDepth 10000 in
set_option maxHeartbeats 2000000 in
theorem walk_AuditBytes (w : World) (a : Rc) (ha : WfR a) (b : Rc) (hb : WfR b) :
    Calls Try.prog 8 #[a.agg, b.agg] w fun e w' => e = .returned (.bool true) ∧ Below w.heap.size w w' := by
  obtain ⟨SA, hSA⟩ : ∃ s, bya a.byt = s := ⟨_, rfl⟩
  obtain ⟨SB, hSB⟩ : ∃ s, bya b.byt = s := ⟨_, rfl⟩
  have EA : (SA.toList == SA.toList) = true := bytes_beq SA
  have EB : (SA.toList == SB.toList) = decide (a = b) := by
    rw [← hSA, ← hSB, bya_beq]
    congr 1
    exact propext ⟨fun h => byt_inj ha hb h, fun h => by rw [h]⟩
  have RE := rec_eql a b
  have HSA := hid hSA
  have HSB := hid hSB
  clear hSA hSB ha hb
  obtain ⟨W0, hW0⟩ : ∃ W0, (w.alloc (.cells #[.int .i64 a.s, .int .i64 a.t, .int .i64 a.c, .int .i64 a.o, .int .i64 a.e, .int .i64 a.n, .int .i64 a.m, .int .i64 a.a, .int .i64 a.b, .int .i64 a.d] 42)).alloc (.cells #[.int .i64 b.s, .int .i64 b.t, .int .i64 b.c, .int .i64 b.o, .int .i64 b.e, .int .i64 b.n, .int .i64 b.m, .int .i64 b.a, .int .i64 b.b, .int .i64 b.d] 42) = W0 := ⟨_, rfl⟩
  have K0 : Keep (fun _ => False) w W0 := by rw [← hW0]; exact ((Keep.refl _ _).alloc _).alloc _
  have S0 : W0.heap.size = w.heap.size + 2 := by rw [← hW0, World.size_alloc, World.size_alloc]
  have ra : W0.heap[w.heap.size]? = some (.cells #[.int .i64 a.s, .int .i64 a.t, .int .i64 a.c, .int .i64 a.o, .int .i64 a.e, .int .i64 a.n, .int .i64 a.m, .int .i64 a.a, .int .i64 a.b, .int .i64 a.d] 42 (0, 0)) := by
    rw [← hW0, heap_alloc_old _ _ (by rw [World.size_alloc]; exact Nat.lt_succ_self _)]
    exact heap_alloc_new w _
  have rb : W0.heap[w.heap.size + 1]? = some (.cells #[.int .i64 b.s, .int .i64 b.t, .int .i64 b.c, .int .i64 b.o, .int .i64 b.e, .int .i64 b.n, .int .i64 b.m, .int .i64 b.a, .int .i64 b.b, .int .i64 b.d] 42 (0, 0)) := by
    rw [← hW0, ← World.size_alloc w (.cells #[.int .i64 a.s, .int .i64 a.t, .int .i64 a.c, .int .i64 a.o, .int .i64 a.e, .int .i64 a.n, .int .i64 a.m, .int .i64 a.a, .int .i64 a.b, .int .i64 a.d] 42)]
    exact heap_alloc_new _ _
  have BA : BothAt w.heap.size a b W0.drew := by
    refine ⟨fun j u hu => ?_, fun j u hu => ?_, ?_⟩
    · rw [World.cell?_drew, cell_of_row _ _ j _ _ _ ra]
      simpa [Rc.cells, Rc.nums] using hu
    · rw [World.cell?_drew, cell_of_row _ _ j _ _ _ rb]
      simpa [Rc.cells, Rc.nums] using hu
    · show w.heap.size + 1 < W0.heap.size
      omega
  have HW0 := hid hW0
  have HK0 := hid K0.drew
  have HBA := hid BA
  clear hW0 K0 S0 ra rb
  unfold Rc.agg at *
  go_enter Try.func8, Try.ntmps8
  go_wp2_with fail
  rw [HW0.out]
  refine wp_region_steps [2,0,0,2,2,0,2,2,2,2,2,2,2,2,2,2,2,2,2,2,2,2,2,2] (BothAt w.heap.size a b) (by kernel_rfl) BA ?_
  clear BA
  obtain ⟨D, hD⟩ : ∃ D, W0.drew = D := ⟨_, rfl⟩
  rw [hD] at HK0 HBA ⊢
  clear hD HW0
  refine anyX_does 0 rfl (by kernel_rfl) (by rfl) (fun K hK => ?_)
  go_simp
  refine (aawake_any _).mono ?_
  rintro _ w1 ⟨rfl, k1⟩
  have K1 := hid (HK0.out.trans k1)
  have B1 := hid (HBA.out.keep k1)
  refine hK _ _ B1.out ?_
  clear hK K k1
  (try simp only [List.getElem_toArray, List.getElem_cons_zero, List.getElem_cons_succ, Act.put, List.setIfInBounds_toArray, List.set_cons_zero, List.set_cons_succ])
  refine' anyX_calm (v := _) 1 rfl (by kernel_rfl) (by rfl) (fun W hW => ?_) ?_; rotate_left
  · ((try dsimp only at hW); go_simp; first | done | rfl)
  (try simp only [List.getElem_toArray, List.getElem_cons_zero, List.getElem_cons_succ, Act.put, List.setIfInBounds_toArray, List.set_cons_zero, List.set_cons_succ])
  refine' anyX_calm (v := _) 2 rfl (by kernel_rfl) (by rfl) (fun W hW => ?_) ?_; rotate_left
  · (have hB := hW; have q0 : W.cell? ⟨w.heap.size, 0, none⟩ = some (.int .i64 a.s) := hB.1 0 _ rfl; have q1 : W.cell? ⟨w.heap.size, 1, none⟩ = some (.int .i64 a.t) := hB.1 1 _ rfl; have q2 : W.cell? ⟨w.heap.size, 2, none⟩ = some (.int .i64 a.c) := hB.1 2 _ rfl; have q3 : W.cell? ⟨w.heap.size, 3, none⟩ = some (.int .i64 a.o) := hB.1 3 _ rfl; have q4 : W.cell? ⟨w.heap.size, 4, none⟩ = some (.int .i64 a.e) := hB.1 4 _ rfl; have q5 : W.cell? ⟨w.heap.size, 5, none⟩ = some (.int .i64 a.n) := hB.1 5 _ rfl; have q6 : W.cell? ⟨w.heap.size, 6, none⟩ = some (.int .i64 a.m) := hB.1 6 _ rfl; have q7 : W.cell? ⟨w.heap.size, 7, none⟩ = some (.int .i64 a.a) := hB.1 7 _ rfl; have q8 : W.cell? ⟨w.heap.size, 8, none⟩ = some (.int .i64 a.b) := hB.1 8 _ rfl; have q9 : W.cell? ⟨w.heap.size, 9, none⟩ = some (.int .i64 a.d) := hB.1 9 _ rfl; go_simp; first | done | rfl)
  (try simp only [List.getElem_toArray, List.getElem_cons_zero, List.getElem_cons_succ, Act.put, List.setIfInBounds_toArray, List.set_cons_zero, List.set_cons_succ])
  refine' anyX_calm (v := _) 5 rfl (by kernel_rfl) (by rfl) (fun W hW => ?_) ?_; rotate_left
  · (have hB := hW; have q0 : W.cell? ⟨w.heap.size, 0, none⟩ = some (.int .i64 a.s) := hB.1 0 _ rfl; have q1 : W.cell? ⟨w.heap.size, 1, none⟩ = some (.int .i64 a.t) := hB.1 1 _ rfl; have q2 : W.cell? ⟨w.heap.size, 2, none⟩ = some (.int .i64 a.c) := hB.1 2 _ rfl; have q3 : W.cell? ⟨w.heap.size, 3, none⟩ = some (.int .i64 a.o) := hB.1 3 _ rfl; have q4 : W.cell? ⟨w.heap.size, 4, none⟩ = some (.int .i64 a.e) := hB.1 4 _ rfl; have q5 : W.cell? ⟨w.heap.size, 5, none⟩ = some (.int .i64 a.n) := hB.1 5 _ rfl; have q6 : W.cell? ⟨w.heap.size, 6, none⟩ = some (.int .i64 a.m) := hB.1 6 _ rfl; have q7 : W.cell? ⟨w.heap.size, 7, none⟩ = some (.int .i64 a.a) := hB.1 7 _ rfl; have q8 : W.cell? ⟨w.heap.size, 8, none⟩ = some (.int .i64 a.b) := hB.1 8 _ rfl; have q9 : W.cell? ⟨w.heap.size, 9, none⟩ = some (.int .i64 a.d) := hB.1 9 _ rfl; go_simp; first | done | rfl)
  (try simp only [List.getElem_toArray, List.getElem_cons_zero, List.getElem_cons_succ, Act.put, List.setIfInBounds_toArray, List.set_cons_zero, List.set_cons_succ])
  refine anyX_does 3 rfl (by kernel_rfl) (by rfl) (fun K hK => ?_)
  go_simp
  refine (bytes_any a _).mono ?_
  rintro _ w2 ⟨a2, rfl, r2, f2, k2⟩
  have K2 := hid (K1.out.trans k2)
  have B2 := hid (B1.out.keep k2)
  have Q2_2 := hid r2
  refine hK _ _ B2.out ?_
  clear hK K f2 k2 r2
  (try simp only [List.getElem_toArray, List.getElem_cons_zero, List.getElem_cons_succ, Act.put, List.setIfInBounds_toArray, List.set_cons_zero, List.set_cons_succ])
  refine anyX_stage (fun W => BothAt w.heap.size a b W ∧ ReadY W (.slice a2 80 80) a.byt) [2,2,2,2,0,2,2,2,2,2,2,2,2,2,2,2,2,2,2,2,2,2,2,2] (fun W h => h.1) ⟨B2.out, Q2_2.out⟩ (by kernel_rfl) (by kernel_rfl) ?_
  refine' anyX_calm (v := .string SA) 4 rfl (by kernel_rfl) (by rfl) (fun W hW => ?_) ?_
  · (have CV := bytes_conv hW.2; rw [bstr_eq, HSA.out] at CV; go_simp; first | done | rfl)
  (try simp only [List.getElem_toArray, List.getElem_cons_zero, List.getElem_cons_succ, Act.put, List.setIfInBounds_toArray, List.set_cons_zero, List.set_cons_succ])
  refine anyX_does 6 rfl (by kernel_rfl) (by rfl) (fun K hK => ?_)
  go_simp
  refine (rbytes_any a _).mono ?_
  rintro _ w3 ⟨v3, rfl, o3, f3, k3⟩
  obtain ⟨a3, c3, hv3⟩ := o3.form
  rw [byt_len] at hv3
  subst hv3
  have r3 := o3.reads
  have K3 := hid (K2.out.trans k3)
  have B3 := hid (B2.out.keep k3)
  have Q3_2 := hid (Q2_2.out.keep k3 (fun _ _ h => h))
  have Q3_3 := hid r3
  refine hK _ _ ⟨B3.out, Q3_2.out⟩ ?_
  clear hK K f3 k3 r3
  (try simp only [List.getElem_toArray, List.getElem_cons_zero, List.getElem_cons_succ, Act.put, List.setIfInBounds_toArray, List.set_cons_zero, List.set_cons_succ])
  refine anyX_stage (fun W => (BothAt w.heap.size a b W ∧ ReadY W (.slice a2 80 80) a.byt) ∧ ReadY W (.slice a3 80 c3) a.byt) [2,2,2,2,2,2,2,0,0,0,0,0,2,2,0,2,2,2,0,0,0,2,2,2] (fun W h => h.1) ⟨⟨B3.out, Q3_2.out⟩, Q3_3.out⟩ (by kernel_rfl) (by kernel_rfl) ?_
  refine' anyX_calm (v := .string SA) 7 rfl (by kernel_rfl) (by rfl) (fun W hW => ?_) ?_
  · (have CV := bytes_conv hW.2; rw [bstr_eq, HSA.out] at CV; go_simp; first | done | rfl)
  (try simp only [List.getElem_toArray, List.getElem_cons_zero, List.getElem_cons_succ, Act.put, List.setIfInBounds_toArray, List.set_cons_zero, List.set_cons_succ])
  refine' anyX_calm (v := _) 8 rfl (by kernel_rfl) (by rfl) (fun W hW => ?_) ?_; rotate_left
  · ((try dsimp only at hW); go_simp; first | done | rfl)
  (try simp only [List.getElem_toArray, List.getElem_cons_zero, List.getElem_cons_succ, Act.put, List.setIfInBounds_toArray, List.set_cons_zero, List.set_cons_succ])
  refine' anyX_calm (v := _) 9 rfl (by kernel_rfl) (by rfl) (fun W hW => ?_) ?_; rotate_left
  · ((try dsimp only at hW); go_simp; first | done | rfl)
  (try simp only [List.getElem_toArray, List.getElem_cons_zero, List.getElem_cons_succ, Act.put, List.setIfInBounds_toArray, List.set_cons_zero, List.set_cons_succ])
  refine' anyX_calm (v := _) 10 rfl (by kernel_rfl) (by rfl) (fun W hW => ?_) ?_; rotate_left
  · ((try dsimp only at hW); go_simp; first | done | rfl)
  (try simp only [List.getElem_toArray, List.getElem_cons_zero, List.getElem_cons_succ, Act.put, List.setIfInBounds_toArray, List.set_cons_zero, List.set_cons_succ])
  refine' anyX_calm (v := _) 11 rfl (by kernel_rfl) (by rfl) (fun W hW => ?_) ?_; rotate_left
  · (have hB := hW.1.1; have q0 : W.cell? ⟨w.heap.size, 0, none⟩ = some (.int .i64 a.s) := hB.1 0 _ rfl; have q1 : W.cell? ⟨w.heap.size, 1, none⟩ = some (.int .i64 a.t) := hB.1 1 _ rfl; have q2 : W.cell? ⟨w.heap.size, 2, none⟩ = some (.int .i64 a.c) := hB.1 2 _ rfl; have q3 : W.cell? ⟨w.heap.size, 3, none⟩ = some (.int .i64 a.o) := hB.1 3 _ rfl; have q4 : W.cell? ⟨w.heap.size, 4, none⟩ = some (.int .i64 a.e) := hB.1 4 _ rfl; have q5 : W.cell? ⟨w.heap.size, 5, none⟩ = some (.int .i64 a.n) := hB.1 5 _ rfl; have q6 : W.cell? ⟨w.heap.size, 6, none⟩ = some (.int .i64 a.m) := hB.1 6 _ rfl; have q7 : W.cell? ⟨w.heap.size, 7, none⟩ = some (.int .i64 a.a) := hB.1 7 _ rfl; have q8 : W.cell? ⟨w.heap.size, 8, none⟩ = some (.int .i64 a.b) := hB.1 8 _ rfl; have q9 : W.cell? ⟨w.heap.size, 9, none⟩ = some (.int .i64 a.d) := hB.1 9 _ rfl; go_simp; first | done | rfl)
  (try simp only [List.getElem_toArray, List.getElem_cons_zero, List.getElem_cons_succ, Act.put, List.setIfInBounds_toArray, List.set_cons_zero, List.set_cons_succ])
  refine' anyX_calm (v := _) 14 rfl (by kernel_rfl) (by rfl) (fun W hW => ?_) ?_; rotate_left
  · (have hB := hW.1.1; have q0 : W.cell? ⟨w.heap.size + 1, 0, none⟩ = some (.int .i64 b.s) := hB.2.1 0 _ rfl; have q1 : W.cell? ⟨w.heap.size + 1, 1, none⟩ = some (.int .i64 b.t) := hB.2.1 1 _ rfl; have q2 : W.cell? ⟨w.heap.size + 1, 2, none⟩ = some (.int .i64 b.c) := hB.2.1 2 _ rfl; have q3 : W.cell? ⟨w.heap.size + 1, 3, none⟩ = some (.int .i64 b.o) := hB.2.1 3 _ rfl; have q4 : W.cell? ⟨w.heap.size + 1, 4, none⟩ = some (.int .i64 b.e) := hB.2.1 4 _ rfl; have q5 : W.cell? ⟨w.heap.size + 1, 5, none⟩ = some (.int .i64 b.n) := hB.2.1 5 _ rfl; have q6 : W.cell? ⟨w.heap.size + 1, 6, none⟩ = some (.int .i64 b.m) := hB.2.1 6 _ rfl; have q7 : W.cell? ⟨w.heap.size + 1, 7, none⟩ = some (.int .i64 b.a) := hB.2.1 7 _ rfl; have q8 : W.cell? ⟨w.heap.size + 1, 8, none⟩ = some (.int .i64 b.b) := hB.2.1 8 _ rfl; have q9 : W.cell? ⟨w.heap.size + 1, 9, none⟩ = some (.int .i64 b.d) := hB.2.1 9 _ rfl; go_simp; first | done | rfl)
  (try simp only [List.getElem_toArray, List.getElem_cons_zero, List.getElem_cons_succ, Act.put, List.setIfInBounds_toArray, List.set_cons_zero, List.set_cons_succ])
  refine' anyX_calm (v := _) 18 rfl (by kernel_rfl) (by rfl) (fun W hW => ?_) ?_; rotate_left
  · (have hB := hW.1.1; have q0 : W.cell? ⟨w.heap.size, 0, none⟩ = some (.int .i64 a.s) := hB.1 0 _ rfl; have q1 : W.cell? ⟨w.heap.size, 1, none⟩ = some (.int .i64 a.t) := hB.1 1 _ rfl; have q2 : W.cell? ⟨w.heap.size, 2, none⟩ = some (.int .i64 a.c) := hB.1 2 _ rfl; have q3 : W.cell? ⟨w.heap.size, 3, none⟩ = some (.int .i64 a.o) := hB.1 3 _ rfl; have q4 : W.cell? ⟨w.heap.size, 4, none⟩ = some (.int .i64 a.e) := hB.1 4 _ rfl; have q5 : W.cell? ⟨w.heap.size, 5, none⟩ = some (.int .i64 a.n) := hB.1 5 _ rfl; have q6 : W.cell? ⟨w.heap.size, 6, none⟩ = some (.int .i64 a.m) := hB.1 6 _ rfl; have q7 : W.cell? ⟨w.heap.size, 7, none⟩ = some (.int .i64 a.a) := hB.1 7 _ rfl; have q8 : W.cell? ⟨w.heap.size, 8, none⟩ = some (.int .i64 a.b) := hB.1 8 _ rfl; have q9 : W.cell? ⟨w.heap.size, 9, none⟩ = some (.int .i64 a.d) := hB.1 9 _ rfl; go_simp; first | done | rfl)
  (try simp only [List.getElem_toArray, List.getElem_cons_zero, List.getElem_cons_succ, Act.put, List.setIfInBounds_toArray, List.set_cons_zero, List.set_cons_succ])
  refine' anyX_calm (v := _) 19 rfl (by kernel_rfl) (by rfl) (fun W hW => ?_) ?_; rotate_left
  · (have hB := hW.1.1; have q0 : W.cell? ⟨w.heap.size + 1, 0, none⟩ = some (.int .i64 b.s) := hB.2.1 0 _ rfl; have q1 : W.cell? ⟨w.heap.size + 1, 1, none⟩ = some (.int .i64 b.t) := hB.2.1 1 _ rfl; have q2 : W.cell? ⟨w.heap.size + 1, 2, none⟩ = some (.int .i64 b.c) := hB.2.1 2 _ rfl; have q3 : W.cell? ⟨w.heap.size + 1, 3, none⟩ = some (.int .i64 b.o) := hB.2.1 3 _ rfl; have q4 : W.cell? ⟨w.heap.size + 1, 4, none⟩ = some (.int .i64 b.e) := hB.2.1 4 _ rfl; have q5 : W.cell? ⟨w.heap.size + 1, 5, none⟩ = some (.int .i64 b.n) := hB.2.1 5 _ rfl; have q6 : W.cell? ⟨w.heap.size + 1, 6, none⟩ = some (.int .i64 b.m) := hB.2.1 6 _ rfl; have q7 : W.cell? ⟨w.heap.size + 1, 7, none⟩ = some (.int .i64 b.a) := hB.2.1 7 _ rfl; have q8 : W.cell? ⟨w.heap.size + 1, 8, none⟩ = some (.int .i64 b.b) := hB.2.1 8 _ rfl; have q9 : W.cell? ⟨w.heap.size + 1, 9, none⟩ = some (.int .i64 b.d) := hB.2.1 9 _ rfl; go_simp; first | done | rfl)
  (try simp only [List.getElem_toArray, List.getElem_cons_zero, List.getElem_cons_succ, Act.put, List.setIfInBounds_toArray, List.set_cons_zero, List.set_cons_succ])
  by_cases hab : a = b
  · rw [decide_eq_true hab] at EB RE
    clear hab
    refine' anyX_calm (v := _) 20 rfl (by kernel_rfl) (by rfl) (fun W hW => ?_) ?_; rotate_left
    · ((try dsimp only at hW); go_simp; first | done | rfl)
    (try simp only [List.getElem_toArray, List.getElem_cons_zero, List.getElem_cons_succ, Act.put, List.setIfInBounds_toArray, List.set_cons_zero, List.set_cons_succ])
    refine anyX_does 12 rfl (by kernel_rfl) (by rfl) (fun K hK => ?_)
    go_simp
    refine (bytes_any a _).mono ?_
    rintro _ w4 ⟨a4, rfl, r4, f4, k4⟩
    have K4 := hid (K3.out.trans k4)
    have B4 := hid (B3.out.keep k4)
    have Q4_2 := hid (Q3_2.out.keep k4 (fun _ _ h => h))
    have Q4_3 := hid (Q3_3.out.keep k4 (fun _ _ h => h))
    have Q4_4 := hid r4
    refine hK _ _ ⟨⟨B4.out, Q4_2.out⟩, Q4_3.out⟩ ?_
    clear hK K f4 k4 r4
    (try simp only [List.getElem_toArray, List.getElem_cons_zero, List.getElem_cons_succ, Act.put, List.setIfInBounds_toArray, List.set_cons_zero, List.set_cons_succ])
    refine anyX_stage (fun W => ((BothAt w.heap.size a b W ∧ ReadY W (.slice a2 80 80) a.byt) ∧ ReadY W (.slice a3 80 c3) a.byt) ∧ ReadY W (.slice a4 80 80) a.byt) [2,2,2,2,2,2,2,2,2,2,2,2,2,0,2,2,2,2,2,2,2,2,2,2] (fun W h => h.1) ⟨⟨⟨B4.out, Q4_2.out⟩, Q4_3.out⟩, Q4_4.out⟩ (by kernel_rfl) (by kernel_rfl) ?_
    refine' anyX_calm (v := .string SA) 13 rfl (by kernel_rfl) (by rfl) (fun W hW => ?_) ?_
    · (have CV := bytes_conv hW.2; rw [bstr_eq, HSA.out] at CV; go_simp; first | done | rfl)
    (try simp only [List.getElem_toArray, List.getElem_cons_zero, List.getElem_cons_succ, Act.put, List.setIfInBounds_toArray, List.set_cons_zero, List.set_cons_succ])
    refine anyX_does 15 rfl (by kernel_rfl) (by rfl) (fun K hK => ?_)
    go_simp
    refine (bytes_any b _).mono ?_
    rintro _ w5 ⟨a5, rfl, r5, f5, k5⟩
    have K5 := hid (K4.out.trans k5)
    have B5 := hid (B4.out.keep k5)
    have Q5_2 := hid (Q4_2.out.keep k5 (fun _ _ h => h))
    have Q5_3 := hid (Q4_3.out.keep k5 (fun _ _ h => h))
    have Q5_4 := hid (Q4_4.out.keep k5 (fun _ _ h => h))
    have Q5_5 := hid r5
    refine hK _ _ ⟨⟨⟨B5.out, Q5_2.out⟩, Q5_3.out⟩, Q5_4.out⟩ ?_
    clear hK K f5 k5 r5
    (try simp only [List.getElem_toArray, List.getElem_cons_zero, List.getElem_cons_succ, Act.put, List.setIfInBounds_toArray, List.set_cons_zero, List.set_cons_succ])
    refine anyX_stage (fun W => (((BothAt w.heap.size a b W ∧ ReadY W (.slice a2 80 80) a.byt) ∧ ReadY W (.slice a3 80 c3) a.byt) ∧ ReadY W (.slice a4 80 80) a.byt) ∧ ReadY W (.slice a5 80 80) b.byt) [2,2,2,2,2,2,2,2,2,2,2,2,2,2,2,2,0,0,2,2,2,0,0,0] (fun W h => h.1) ⟨⟨⟨⟨B5.out, Q5_2.out⟩, Q5_3.out⟩, Q5_4.out⟩, Q5_5.out⟩ (by kernel_rfl) (by kernel_rfl) ?_
    refine' anyX_calm (v := .string SB) 16 rfl (by kernel_rfl) (by rfl) (fun W hW => ?_) ?_
    · (have CV := bytes_conv hW.2; rw [bstr_eq, HSB.out] at CV; go_simp; first | done | rfl)
    (try simp only [List.getElem_toArray, List.getElem_cons_zero, List.getElem_cons_succ, Act.put, List.setIfInBounds_toArray, List.set_cons_zero, List.set_cons_succ])
    refine' anyX_calm (v := _) 17 rfl (by kernel_rfl) (by rfl) (fun W hW => ?_) ?_; rotate_left
    · ((try dsimp only at hW); go_simp; first | done | rfl)
    (try simp only [List.getElem_toArray, List.getElem_cons_zero, List.getElem_cons_succ, Act.put, List.setIfInBounds_toArray, List.set_cons_zero, List.set_cons_succ])
    refine' anyX_calm (v := _) 21 rfl (by kernel_rfl) (by rfl) (fun W hW => ?_) ?_; rotate_left
    · ((try dsimp only at hW); go_simp; first | done | rfl)
    (try simp only [List.getElem_toArray, List.getElem_cons_zero, List.getElem_cons_succ, Act.put, List.setIfInBounds_toArray, List.set_cons_zero, List.set_cons_succ])
    refine' anyX_calm (v := _) 22 rfl (by kernel_rfl) (by rfl) (fun W hW => ?_) ?_; rotate_left
    · ((try dsimp only at hW); go_simp; first | done | rfl)
    (try simp only [List.getElem_toArray, List.getElem_cons_zero, List.getElem_cons_succ, Act.put, List.setIfInBounds_toArray, List.set_cons_zero, List.set_cons_succ])
    refine' anyX_calm (v := _) 23 rfl (by kernel_rfl) (by rfl) (fun W hW => ?_) ?_; rotate_left
    · ((try dsimp only at hW); go_simp; first | done | rfl)
    (try simp only [List.getElem_toArray, List.getElem_cons_zero, List.getElem_cons_succ, Act.put, List.setIfInBounds_toArray, List.set_cons_zero, List.set_cons_succ])
    refine anyX_done (by kernel_rfl) ?_
    go_wp2_with fail
    go_ret
    exact ⟨rfl, K5.out.below (fun _ h => h.elim) (Nat.le_refl _)⟩
  · rw [decide_eq_false hab] at EB RE
    clear hab
    refine' anyX_calm (v := _) 20 rfl (by kernel_rfl) (by rfl) (fun W hW => ?_) ?_; rotate_left
    · ((try dsimp only at hW); go_simp; first | done | rfl)
    (try simp only [List.getElem_toArray, List.getElem_cons_zero, List.getElem_cons_succ, Act.put, List.setIfInBounds_toArray, List.set_cons_zero, List.set_cons_succ])
    refine anyX_does 12 rfl (by kernel_rfl) (by rfl) (fun K hK => ?_)
    go_simp
    refine (bytes_any a _).mono ?_
    rintro _ w4 ⟨a4, rfl, r4, f4, k4⟩
    have K4 := hid (K3.out.trans k4)
    have B4 := hid (B3.out.keep k4)
    have Q4_2 := hid (Q3_2.out.keep k4 (fun _ _ h => h))
    have Q4_3 := hid (Q3_3.out.keep k4 (fun _ _ h => h))
    have Q4_4 := hid r4
    refine hK _ _ ⟨⟨B4.out, Q4_2.out⟩, Q4_3.out⟩ ?_
    clear hK K f4 k4 r4
    (try simp only [List.getElem_toArray, List.getElem_cons_zero, List.getElem_cons_succ, Act.put, List.setIfInBounds_toArray, List.set_cons_zero, List.set_cons_succ])
    refine anyX_stage (fun W => ((BothAt w.heap.size a b W ∧ ReadY W (.slice a2 80 80) a.byt) ∧ ReadY W (.slice a3 80 c3) a.byt) ∧ ReadY W (.slice a4 80 80) a.byt) [2,2,2,2,2,2,2,2,2,2,2,2,2,0,2,2,2,2,2,2,2,2,2,2] (fun W h => h.1) ⟨⟨⟨B4.out, Q4_2.out⟩, Q4_3.out⟩, Q4_4.out⟩ (by kernel_rfl) (by kernel_rfl) ?_
    refine' anyX_calm (v := .string SA) 13 rfl (by kernel_rfl) (by rfl) (fun W hW => ?_) ?_
    · (have CV := bytes_conv hW.2; rw [bstr_eq, HSA.out] at CV; go_simp; first | done | rfl)
    (try simp only [List.getElem_toArray, List.getElem_cons_zero, List.getElem_cons_succ, Act.put, List.setIfInBounds_toArray, List.set_cons_zero, List.set_cons_succ])
    refine anyX_does 15 rfl (by kernel_rfl) (by rfl) (fun K hK => ?_)
    go_simp
    refine (bytes_any b _).mono ?_
    rintro _ w5 ⟨a5, rfl, r5, f5, k5⟩
    have K5 := hid (K4.out.trans k5)
    have B5 := hid (B4.out.keep k5)
    have Q5_2 := hid (Q4_2.out.keep k5 (fun _ _ h => h))
    have Q5_3 := hid (Q4_3.out.keep k5 (fun _ _ h => h))
    have Q5_4 := hid (Q4_4.out.keep k5 (fun _ _ h => h))
    have Q5_5 := hid r5
    refine hK _ _ ⟨⟨⟨B5.out, Q5_2.out⟩, Q5_3.out⟩, Q5_4.out⟩ ?_
    clear hK K f5 k5 r5
    (try simp only [List.getElem_toArray, List.getElem_cons_zero, List.getElem_cons_succ, Act.put, List.setIfInBounds_toArray, List.set_cons_zero, List.set_cons_succ])
    refine anyX_stage (fun W => (((BothAt w.heap.size a b W ∧ ReadY W (.slice a2 80 80) a.byt) ∧ ReadY W (.slice a3 80 c3) a.byt) ∧ ReadY W (.slice a4 80 80) a.byt) ∧ ReadY W (.slice a5 80 80) b.byt) [2,2,2,2,2,2,2,2,2,2,2,2,2,2,2,2,0,0,2,2,2,0,0,0] (fun W h => h.1) ⟨⟨⟨⟨B5.out, Q5_2.out⟩, Q5_3.out⟩, Q5_4.out⟩, Q5_5.out⟩ (by kernel_rfl) (by kernel_rfl) ?_
    refine' anyX_calm (v := .string SB) 16 rfl (by kernel_rfl) (by rfl) (fun W hW => ?_) ?_
    · (have CV := bytes_conv hW.2; rw [bstr_eq, HSB.out] at CV; go_simp; first | done | rfl)
    (try simp only [List.getElem_toArray, List.getElem_cons_zero, List.getElem_cons_succ, Act.put, List.setIfInBounds_toArray, List.set_cons_zero, List.set_cons_succ])
    refine' anyX_calm (v := _) 17 rfl (by kernel_rfl) (by rfl) (fun W hW => ?_) ?_; rotate_left
    · ((try dsimp only at hW); go_simp; first | done | rfl)
    (try simp only [List.getElem_toArray, List.getElem_cons_zero, List.getElem_cons_succ, Act.put, List.setIfInBounds_toArray, List.set_cons_zero, List.set_cons_succ])
    refine' anyX_calm (v := _) 21 rfl (by kernel_rfl) (by rfl) (fun W hW => ?_) ?_; rotate_left
    · ((try dsimp only at hW); go_simp; first | done | rfl)
    (try simp only [List.getElem_toArray, List.getElem_cons_zero, List.getElem_cons_succ, Act.put, List.setIfInBounds_toArray, List.set_cons_zero, List.set_cons_succ])
    refine' anyX_calm (v := _) 22 rfl (by kernel_rfl) (by rfl) (fun W hW => ?_) ?_; rotate_left
    · ((try dsimp only at hW); go_simp; first | done | rfl)
    (try simp only [List.getElem_toArray, List.getElem_cons_zero, List.getElem_cons_succ, Act.put, List.setIfInBounds_toArray, List.set_cons_zero, List.set_cons_succ])
    refine' anyX_calm (v := _) 23 rfl (by kernel_rfl) (by rfl) (fun W hW => ?_) ?_; rotate_left
    · ((try dsimp only at hW); go_simp; first | done | rfl)
    (try simp only [List.getElem_toArray, List.getElem_cons_zero, List.getElem_cons_succ, Act.put, List.setIfInBounds_toArray, List.set_cons_zero, List.set_cons_succ])
    refine anyX_done (by kernel_rfl) ?_
    go_wp2_with fail
    go_ret
    exact ⟨rfl, K5.out.below (fun _ h => h.elim) (Nat.le_refl _)⟩
end Go.Proofs.Ytpijnpapmdnceaa
