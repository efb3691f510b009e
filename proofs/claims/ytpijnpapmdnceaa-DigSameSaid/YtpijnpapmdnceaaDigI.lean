/- Law 20: a list of bytes that came in; DigOf. -/
import Derived.Test.YtpijnpapmdnceaaDigH
import Derived.Test.YtpijnpapmdnceaaArg
namespace Go.Proofs.Ytpijnpapmdnceaa
open Go Go.ChangeShapes Go.WideShapes Go.Deep Go.RowKit

section
variable {H : Type} {enc : TypeId × Value → H} {P : Program} {w : World} {base : Nat} {spare : Nat → Bool} {held : Bool}
theorem arg_cap {t e : TypeId} {v : Value} {d : DataW H} {ps : List MemPlace} (ht : P.underlying t = some (.slice e)) (hv : ∃ a l c, v = .slice a l c) (h : DataW.Trod enc P w base spare held t v d ps) : ∃ a l c, v = .slice a l c ∧ l ≤ c ∧ c ≤ maxLen := by
  obtain ⟨a0, l0, c0, rfl⟩ := hv
  obtain ⟨fuel, h⟩ := h
  rcases open_slice ht h with ⟨h0, _⟩ | ⟨a, len, cap, m, n, D, Pl, hcs, hb, hl, hm, _⟩
  · simp [Value.cells] at h0
    obtain ⟨rfl, rfl, rfl⟩ := h0
    exact ⟨_, _, _, rfl, Nat.le_refl _, Nat.zero_le _⟩
  · simp [Value.cells] at hcs
    obtain ⟨rfl, rfl, rfl⟩ := hcs
    exact ⟨_, _, _, rfl, hl, hm⟩
end

/-- A list of bytes that can be read; its room is known. -/
def ReadC (w : World) (v : Value) (l : List B8) : Prop := ReadY w v l ∧ ∃ a c, v = .slice a l.length c ∧ l.length ≤ c ∧ c ≤ maxLen

theorem bytes_of {w : World} {v : Value} {n : Nat} {f : Nat → Nat → Int} (h : ArgRows w v [.u8] n f) (hc : ∃ a l c, v = .slice a l c ∧ l ≤ c ∧ c ≤ maxLen) : ∃ s, ReadC w v s := by
  obtain ⟨hm, ⟨rfl, a, c, rfl⟩ | ⟨g, off, c, rfl, hg, hx⟩⟩ := h
  · obtain ⟨_, _, _, h1, h2, h3⟩ := hc
    simp only [Value.slice.injEq] at h1
    obtain ⟨rfl, rfl, rfl⟩ := h1
    exact ⟨[], readY_nil _ _ _, a, c, rfl, h2, h3⟩
  · obtain ⟨_, _, _, h1, h2, h3⟩ := hc
    simp only [Value.slice.injEq] at h1
    obtain ⟨rfl, rfl, rfl⟩ := h1
    have hl : ((List.range n).map fun i => BitVec.ofInt 8 (f i 0)).length = n := by simp
    refine ⟨(List.range n).map fun i => BitVec.ofInt 8 (f i 0), .inr ⟨g, off, c, by rw [hl], hg, by rw [hl]; exact hm, fun i hi => ?_⟩, _, c, by rw [hl], by rw [hl]; exact h2, h3⟩
    rw [hl] at hi
    obtain ⟨h4, h5⟩ := hx i hi 0 .u8 rfl
    rw [gb_get _ _ (by rw [hl]; exact hi)]
    simp only [List.length_cons, List.length_nil, Nat.zero_add, Nat.mul_one, Nat.add_zero] at h4
    rw [h4]
    simp only [List.getElem_map, List.getElem_range, BitVec.toNat_ofInt]
    have h6 : 0 ≤ f i 0 ∧ f i 0 ≤ 255 := by
      have := h5
      have e1 : IntKind.u8.min = 0 := rfl
      have e2 : IntKind.u8.max = 255 := rfl
      simp [Lit.wf, e1, e2] at this
      omega
    congr 2
    omega

theorem readC_take {w : World} {a : Option Addr} {n c : Nat} {l : List B8} (h : ReadC w (.slice a n c) l) (k : Nat) (hk : k < n) : ReadC w (.slice a k c) (l.take k) := by
  obtain ⟨hr, _, _, h1, h2, h3⟩ := h
  simp only [Value.slice.injEq] at h1
  obtain ⟨rfl, rfl, rfl⟩ := h1
  have hl : (l.take k).length = k := by rw [List.length_take]; omega
  refine ⟨?_, a, c, by rw [hl], by rw [hl]; omega, h3⟩
  obtain ⟨a', c', hv, rfl⟩ | ⟨g, off, c', hv, hg, hm, hc⟩ := hr
  · simp at hk
  · simp only [Value.slice.injEq] at hv
    obtain ⟨rfl, -, rfl⟩ := hv
    refine .inr ⟨g, off, c, by rw [hl], hg, by rw [hl]; omega, fun i hi => ?_⟩
    rw [hl] at hi
    rw [hc i (by omega), gb_get l i (by omega), gb_get _ i (by rw [hl]; exact hi), List.getElem_take]

set_option maxHeartbeats 400000 in
theorem short_any {w : World} {v : Value} {l : List B8} (h : ReadC w v l) :
    Calls Try.prog 14 #[v] w fun e w' => ∃ v', e = .returned v' ∧ ReadC w v' (l.take 700) ∧ w = w' := by
  obtain ⟨_, a, c, rfl, h2, h3⟩ := id h
  by_cases hl : l.length > 700
  · have ht := hid (readC_take h 700 hl)
    have hl' : (l.length : Int) > 700 := by omega
    have hc : (700 : Int) ≤ (c : Int) := by omega
    clear h
    go_enter Try.func14, Try.ntmps14
    go_wp2
    go_ret
    exact ⟨_, rfl, ht.out, rfl⟩
  · have ht := hid h
    have e : l.take 700 = l := List.take_of_length_le (by omega)
    have he := hid e
    have hl' : ¬ (l.length : Int) > 700 := by omega
    clear h e
    go_enter Try.func14, Try.ntmps14
    go_wp2
    go_ret
    exact ⟨_, rfl, by rw [he.out]; exact ht.out, rfl⟩

theorem bytes_beq (a : ByteArray) : (a.toList == a.toList) = true := beq_self_eq_true _

set_option maxRecDepth 10000 in
set_option maxHeartbeats 1000000 in
theorem walk_DigOf (w : World) (v : Value) (l : List B8) (h : ReadC w v l) :
    Calls Try.prog 3 #[v] w fun e w' => e = .returned (.bool true) ∧ Below w.heap.size w w' := by
  have hl : (l.take 700).length ≤ 1000 := by rw [List.length_take]; omega
  obtain ⟨L, hL⟩ : ∃ L, l.take 700 = L := ⟨_, rfl⟩
  have HL := hid hL
  rw [hL] at hl
  obtain ⟨S, hS⟩ : ∃ s, bstr (dgt L) = .string s := ⟨_, rfl⟩
  have HS := hid hS
  have H := hid h
  clear h hS hL
  obtain ⟨_, a, c, rfl, _, _⟩ := H.out
  go_enter Try.func3, Try.ntmps3
  go_wp2_with fail
  refine (dawake_any w).mono ?_
  rintro _ w1 ⟨rfl, k1⟩
  have h1 : ReadC w1 (.slice a l.length c) l := ⟨H.out.1.keep k1 (fun _ _ h => h), H.out.2⟩
  have h1 := hid h1
  have K1 := hid k1
  clear k1
  go_wp2_with fail
  refine (short_any h1.out).mono ?_
  rintro _ _ ⟨v2, rfl, r2, rfl⟩
  rw [HL.out] at r2
  obtain ⟨_, a2, c2, hv2, _⟩ := id r2
  subst hv2
  have r2 := hid r2
  go_wp2_with fail
  refine (of_any r2.out.1 hl).mono ?_
  rintro _ w3 ⟨rfl, k3⟩
  rw [HS.out]
  have h3 : ReadC w3 (.slice a l.length c) l := ⟨h1.out.1.keep k3 (fun _ _ h => h), H.out.2⟩
  have h3 := hid h3
  have K3 := hid (K1.out.trans k3)
  clear k3
  go_wp2_with fail
  refine (short_any h3.out).mono ?_
  rintro _ _ ⟨v4, rfl, r4, rfl⟩
  rw [HL.out] at r4
  obtain ⟨_, a4, c4, hv4, _⟩ := id r4
  subst hv4
  have r4 := hid r4
  go_wp2_with fail
  refine (rof_any r4.out.1 hl).mono ?_
  rintro _ w5 ⟨rfl, k5⟩
  rw [HS.out]
  have K5 := hid (K3.out.trans k5)
  have bb := bytes_beq S
  clear k5
  go_wp2_with fail
  go_ret
  exact ⟨by rfl, K5.out.below (fun _ h => h.elim) (Nat.le_refl _)⟩
end Go.Proofs.Ytpijnpapmdnceaa
