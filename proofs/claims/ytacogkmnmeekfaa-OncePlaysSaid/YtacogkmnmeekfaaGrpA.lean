/- The walks of package group. -/
import Derived.Test.YtacogkmnmeekfaaIntC
namespace Go.Proofs.Ytacogkmnmeekfaa
open Go Go.RowKit

/-- Block b is a Group that counts c, with the slice v, that holds l. -/
structure GrpAt (w : World) (b : Nat) (v : Value) (c : Int) (l : List Int) : Prop where
  row : w.heap[b]? = some (.cells #[.int .i64 c, v] 65 (0, 0))
  own : OwnI w v l
  ne : v.ownBlock ≠ some b
  lo : 0 ≤ c
  hi : c ≤ 1048576

theorem GrpAt.lt {w : World} {b : Nat} {v : Value} {c : Int} {l : List Int} (h : GrpAt w b v c l) : b < w.heap.size := lt_of_heap h.row
theorem GrpAt.fro {w : World} {b : Nat} {v : Value} {c : Int} {l : List Int} (h : GrpAt w b v c l) (o : Nat) : w.frozen? ⟨b, o, none⟩ = false := by
  simp [World.frozen?, h.row]
theorem GrpAt.c0 {w : World} {b : Nat} {v : Value} {c : Int} {l : List Int} (h : GrpAt w b v c l) : w.cell? ⟨b, 0, none⟩ = some (.int .i64 c) := by
  rw [cell_of_row w b 0 _ _ _ h.row]; rfl
theorem GrpAt.c1 {w : World} {b : Nat} {v : Value} {c : Int} {l : List Int} (h : GrpAt w b v c l) : w.cell? ⟨b, 1, none⟩ = some v := by
  rw [cell_of_row w b 1 _ _ _ h.row]; rfl
theorem GrpAt.keep {F : Nat → Prop} {w w' : World} {b : Nat} {v : Value} {c : Int} {l : List Int} (h : GrpAt w b v c l) (hK : Keep F w w') (hF : ¬ F b) (hv : ∀ k, v.ownBlock = some k → ¬ F k) : GrpAt w' b v c l :=
  ⟨(hK.block b h.lt hF).trans h.row, h.own.keep hK hv, h.ne, h.lo, h.hi⟩

theorem GrpAt.count {w : World} {b : Nat} {v : Value} {c : Int} {l : List Int} (h : GrpAt w b v c l) (d : Int) (h0 : 0 ≤ d) (h1 : d ≤ 1048576) : GrpAt (w.setCell ⟨b, 0, none⟩ (.int .i64 d)) b v d l := by
  refine ⟨by rw [heap_setCell_row h.row]; rfl, ?_, h.ne, h0, h1⟩
  exact h.own.keep (F := fun k => k = b) ((Keep.refl _ w).setOwn _) (fun k hk e => h.ne (by rw [hk, e]))

theorem GrpAt.list {w : World} {b : Nat} {v v' : Value} {c : Int} {l' : List Int} (h : w.heap[b]? = some (.cells #[.int .i64 c, v] 65 (0, 0))) (h0 : 0 ≤ c) (h1 : c ≤ 1048576) (ho : OwnI w v' l') (hn : v'.ownBlock ≠ some b) : GrpAt (w.setCell ⟨b, 1, none⟩ v') b v' c l' := by
  refine ⟨by rw [heap_setCell_row h]; rfl, ?_, hn, h0, h1⟩
  exact ho.keep (F := fun k => k = b) ((Keep.refl _ w).setOwn _) (fun k hk e => hn (by rw [hk, e]))

/-- A Group whose own blocks are G's. -/
def IsGrp (w : World) (G : Nat → Prop) (b : Nat) (c : Int) (l : List Int) : Prop :=
  G b ∧ (∀ k, G k → k < w.heap.size) ∧ ∃ v, GrpAt w b v c l ∧ ∀ k, v.ownBlock = some k → G k

theorem IsGrp.keep {F G : Nat → Prop} {w w' : World} {b : Nat} {c : Int} {l : List Int} (h : IsGrp w G b c l) (hK : Keep F w w') (hF : ∀ k, G k → ¬ F k) : IsGrp w' G b c l := by
  obtain ⟨h1, h2, v, h3, h4⟩ := h
  exact ⟨h1, fun k hk => Nat.lt_of_lt_of_le (h2 k hk) hK.size, v, h3.keep hK (hF b h1) (fun k hk => hF k (h4 k hk)), h4⟩

theorem IsGrp.of {w : World} {b : Nat} {v : Value} {c : Int} {l : List Int} (h : GrpAt w b v c l) : IsGrp w (fun k => k = b ∨ v.ownBlock = some k) b c l :=
  ⟨.inl rfl, fun k hk => hk.elim (fun e => e ▸ h.lt) (fun e => own_lt h.own e), v, h, fun k hk => .inr hk⟩

set_option maxHeartbeats 400000 in
theorem gnew_any (w : World) :
    Calls Try.prog 18 #[] w fun e w' => e = .returned (.pointer (some ⟨w.heap.size, 0, none⟩)) ∧ IsGrp w' (fun k => k = w.heap.size) w.heap.size 0 [] ∧ Keep (fun _ => False) w w' := by
  have fin : GrpAt (w.alloc (.cells #[.int .i64 0, .slice none 0 0] 65)) w.heap.size (.slice none 0 0) 0 [] :=
    ⟨heap_alloc_new w _, OwnI.nil _, by simp [Value.ownBlock], by decide, by decide⟩
  have F := hid fin
  clear fin
  go_enter Try.func18, Try.ntmps18
  go_wp2
  go_ret
  exact ⟨rfl, ⟨rfl, fun k hk => by subst hk; exact F.out.lt, _, F.out, fun k hk => by simp [Value.ownBlock] at hk⟩, (Keep.refl _ _).alloc _⟩

set_option maxHeartbeats 400000 in
theorem gcount_any {b : Nat} {G : Nat → Prop} {c : Int} {l : List Int} {w : World} (h : IsGrp w G b c l) :
    Calls Try.prog 23 #[.pointer (some ⟨b, 0, none⟩)] w fun e w' => e = .returned (.int .i64 c) ∧ w = w' := by
  obtain ⟨_, _, v, h, _⟩ := h
  have h1 := h.c0
  clear h
  go_enter Try.func23, Try.ntmps23
  go_wp2
  go_ret
  exact ⟨rfl, rfl⟩

set_option maxHeartbeats 400000 in
theorem gwaits_any {b : Nat} {G : Nat → Prop} {c : Int} {l : List Int} {w : World} (h : IsGrp w G b c l) (hn : l.length ≤ 1000000) :
    Calls Try.prog 24 #[.pointer (some ⟨b, 0, none⟩)] w fun e w' => ∃ v', e = .returned v' ∧ ReadI w' v' l ∧ (∀ k, v'.ownBlock = some k → w.heap.size ≤ k) ∧ Keep (fun _ => False) w w' := by
  obtain ⟨_, _, v, h, _⟩ := h
  have h1 := h.c1
  have H := hid h.own
  clear h
  go_enter Try.func24, Try.ntmps24
  go_wp2_with fail
  refine (clone_any H.out hn).mono ?_
  rintro _ w1 ⟨v1, rfl, o1, f1, k1⟩
  obtain ⟨a, n, rfl⟩ := o1.form
  have R := hid o1.reads
  have F := hid f1
  have K1 := hid k1
  have hle : l.length ≤ n := by
    rcases o1.2 with ⟨h, h0⟩ | ⟨g, cap, cur, h, _, _, h2, _⟩
    · omega
    · cases h; exact h2
  clear o1 f1 k1
  go_wp2_with fail
  refine (clip_any a l.length n hle).mono ?_
  rintro _ w2 ⟨rfl, rfl⟩
  go_wp2
  go_ret
  refine ⟨_, rfl, ?_, fun k hk => F.out k ?_, K1.out⟩
  · rcases R.out with ⟨a', c', h1, h2⟩ | ⟨g, off, c', h1, h2, h3, h4⟩
    · exact .inl ⟨a, 0, by rw [h2]; rfl, h2⟩
    · cases h1
      exact .inr ⟨g, off, _, rfl, h2, h3, h4⟩
  · cases a <;> exact hk

end Go.Proofs.Ytacogkmnmeekfaa
