/- Law 20: DigSame. -/
import Derived.Test.YtpijnpapmdnceaaDigI
import Derived.Laws.OwnMore
namespace Go.Proofs.Ytpijnpapmdnceaa
open Go Go.RowKit

/-- A block of T bytes: first the list L (of n), then from n on up to k the byte x. -/
def Room (w : World) (b n T : Nat) (L : List B8) (x : B8) (k : Nat) : Prop :=
  ∃ cur, w.heap[b]? = some (.cells cur 5 (0, 0)) ∧ cur.size = T ∧ cur.toList.take n = flat8 L ∧ ∀ i, n ≤ i → i < k → cur[i]? = some (.int .u8 (x.toNat : Int))

section
variable {w w' : World} {b n T k : Nat} {L : List B8} {x : B8}
theorem Room.lt (h : Room w b n T L x k) : b < w.heap.size := by obtain ⟨_, h1, _⟩ := h; exact lt_of_heap h1
theorem Room.keep {F : Nat → Prop} (h : Room w b n T L x k) (hK : Keep F w w') (hF : ¬ F b) : Room w' b n T L x k := by
  have hlt := h.lt
  obtain ⟨cur, h1, h2⟩ := h
  exact ⟨cur, (hK.block b hlt hF).trans h1, h2⟩
theorem Room.read (h : Room w b n T L x k) (hL : L.length = n) (hn : n ≤ T) (hT : T ≤ maxLen) : ReadY w (.slice (some ⟨b, 0, none⟩) n T) L := by
  obtain ⟨cur, h1, h2, h3, _⟩ := h
  have h : OwnY w (.slice (some ⟨b, 0, none⟩) n T) L := ⟨by rw [flat8_length]; omega, .inr ⟨b, T, cur, by rw [hL], Nat.zero_le _, h1, by rw [hL]; exact hn, hT, by omega, by rw [hL, Nat.mul_one]; exact h3⟩⟩
  exact h.reads
theorem Room.cell (h : Room w b n T L x k) (i : Nat) (hi : i < T) : (∃ u, w.cell? ⟨b, i, none⟩ = some u) ∧ w.frozen? ⟨b, i, none⟩ = false := by
  obtain ⟨cur, h1, h2, _⟩ := h
  refine ⟨⟨cur[i]'(by omega), ?_⟩, frozen_of_row w b i _ _ h1⟩
  rw [cell_of_row w b i cur 5 (0, 0) h1]
  exact Array.getElem?_eq_getElem (by omega)
theorem Room.get (h : Room w b n T L x k) (i : Nat) (h0 : n ≤ i) (hi : i < k) : w.cell? ⟨b, i, none⟩ = some (.int .u8 (x.toNat : Int)) := by
  obtain ⟨cur, h1, _, _, h4⟩ := h
  rw [cell_of_row w b i cur 5 (0, 0) h1]
  exact h4 i h0 hi
theorem Room.set (h : Room w b n T L x k) (hk : n ≤ k) (hT : k < T) : Room (w.setCell ⟨b, k, none⟩ (.int .u8 (x.toNat : Int))) b n T L x (k + 1) := by
  obtain ⟨cur, h1, h2, h3, h4⟩ := h
  refine ⟨_, heap_setCell_same w b k cur 5 (.int .u8 (x.toNat : Int)) h1, by simpa using h2, ?_, fun i h0 hi => ?_⟩
  · rw [Array.toList_setIfInBounds, List.take_set_of_le hk, h3]
  · by_cases e : k = i
    · subst e
      rw [Array.getElem?_setIfInBounds_self_of_lt (by omega)]
    · rw [Array.getElem?_setIfInBounds_ne e]
      exact h4 i h0 (by omega)
end

/-- 'append(make([]byte, 0, T), x...)': it lies in the room that was made. -/
theorem wp_append_fit (w : World) {o : Oper} {a : Act} {K : Act → World → Prop} {Q : Exit → Act → World → Prop} (s y : Operand)
    (ho : o.op = .call { callee := .builtin .append, args := #[s, y], argTypes := #[22, 22] })
    (g n T : Nat) (hs : a.eval s = .slice (some ⟨g, 0, none⟩) 0 T) (hown : OwnY w (.slice (some ⟨g, 0, none⟩) 0 T) []) (a2 : Option Addr) (c2 : Nat) (L : List B8) (hx : a.eval y = .slice a2 n c2) (hr : ReadY w (.slice a2 n c2) L) (hL : L.length = n) (hn : n ≤ T) (x : B8)
    (h : ∀ w', Room w' g n T L x n → Keep (fun k => k = g) w w' → K (a.put o.dst (.slice (some ⟨g, 0, none⟩) n T)) w') : o.wp Try.prog a w K Q := by
  obtain ⟨i0, hi, hz0, hz1, hz2⟩ := info_parts Try.infoY
  have room : ∀ W, OwnY W (.slice (some ⟨g, 0, none⟩) n T) L → Room W g n T L x n := by
    intro W ⟨_, hW⟩
    rcases hW with ⟨h0, _⟩ | ⟨g', cap, cur, hv, _, hg, _, _, hcs, ht⟩
    · cases h0
    · simp only [Value.slice.injEq, Option.some.injEq, Addr.mk.injEq, and_true] at hv
      obtain ⟨rfl, hv2, rfl⟩ := hv
      exact ⟨cur, hg, by omega, by rw [hL, Nat.mul_one] at ht; exact ht, fun i h0 hi => absurd hi (by omega)⟩
  cases a2 with
  | none =>
    have h0 : n = 0 ∧ L = [] := by
      rcases hr with ⟨_, _, hv, h0⟩ | ⟨_, _, _, hv, _⟩
      · exact ⟨by rw [← hL, h0]; rfl, h0⟩
      · simp at hv
    obtain ⟨rfl, rfl⟩ := h0
    have hrun : (Builtin.append_ #[22, 22] o.type #[.slice (some ⟨g, 0, none⟩) 0 T, .slice none 0 c2]).run Try.prog w = .ok (.slice (some ⟨g, 0, none⟩) 0 T) w := by
      simp [Builtin.append_, run_underlying Try.underlying22, sizeOf, typeInfo, hi, Builtin.lenOf, Builtin.firstCells, storeCells]
    unfold Oper.wp execOp
    simp only [ho, resolve, invoke, builtin, Sem.run_bind, Sem.run_pure, Result.andThen_ok, List.map_toArray, List.map_cons, List.map_nil, hs, hx, hrun]
    exact h w (room w hown) (Keep.refl _ _)
  | some ad =>
    have hsrc := hr.src
    rcases hsrc with ⟨h0, _⟩ | ⟨ad', c', hv, hl, hc, h1⟩
    · cases h0
    · simp only [Value.slice.injEq, Option.some.injEq] at hv
      obtain ⟨rfl, -, rfl⟩ := hv
      obtain ⟨w', hrun, ho2, hg⟩ := run_append_fits (P := Try.prog) w 0 22 o.type 5 i0 1 Try.underlying22 hi hz1 g 0 T [] hown ad n c2 (flat8 L) (by rw [hl, hL]) hc h1 (by omega)
      unfold Oper.wp execOp
      simp only [ho, resolve, invoke, builtin, Sem.run_bind, Sem.run_pure, Result.andThen_ok, List.map_toArray, List.map_cons, List.map_nil, hs, hx, hrun]
      simp only [Nat.zero_add, List.nil_append] at ho2 ⊢
      refine h w' (room w' ?_) ?_
      · unfold OwnY
        rw [hL]
        exact ho2
      · exact (Keep.of_grown hg).mono (fun k _ hk => (Option.some.inj hk).symm)

set_option maxRecDepth 10000 in
set_option maxHeartbeats 2000000 in
theorem walk_DigSame (w : World) (v : Value) (l : List B8) (h : ReadC w v l) (X : Int) (hX : (Lit.int .u8 X).wf = true) :
    Calls Try.prog 5 #[v, .int .u8 X] w fun e w' => e = .returned (.bool true) ∧ Below w.heap.size w w' := by
  obtain ⟨x, rfl⟩ : ∃ x : B8, X = (x.toNat : Int) := by
    have e1 : IntKind.u8.min = 0 := rfl
    have e2 : IntKind.u8.max = 255 := rfl
    simp [Lit.wf, e1, e2] at hX
    exact ⟨BitVec.ofInt 8 X, by simp only [BitVec.toNat_ofInt]; omega⟩
  obtain ⟨L, hL⟩ : ∃ L, l.take 700 = L := ⟨_, rfl⟩
  have hl : L.length ≤ 700 := by rw [← hL, List.length_take]; omega
  have HL := hid hL
  obtain ⟨n, hn⟩ : ∃ n, L.length = n := ⟨_, rfl⟩
  have HN := hid hn
  rw [hn] at hl
  have H := hid h
  obtain ⟨_, a, c, rfl, _, _⟩ := id h
  obtain ⟨S, hS, hSs⟩ : ∃ S : ByteArray, bstr (dgt L) = .string S ∧ S.size = 32 := ⟨bya (dgt L), rfl, by rw [bya_size, dgt_len]⟩
  obtain ⟨Z, hZ⟩ : ∃ Z : ByteArray, bstr L = .string Z := ⟨_, rfl⟩
  have HS := hid hS
  have HZ := hid hZ
  clear h hn hL hS hZ hX
  go_enter Try.func5, Try.ntmps5
  go_wp2_with fail
  refine (short_any H.out).mono ?_
  rintro _ _ ⟨v2, rfl, r2, rfl⟩
  rw [HL.out] at r2
  obtain ⟨hr2, a2, c2, hv2, hc2, hm2⟩ := r2
  rw [HN.out] at hv2 hc2
  subst hv2
  have RX := hid hr2
  clear hr2 H hc2 hm2
  obtain ⟨b, hb⟩ : ∃ b, w.heap.size = b := ⟨_, rfl⟩
  have w300 : IntKind.i64.wrap ((n : Int) + 300) = ((n + 300 : Nat) : Int) := by rw [IntWalk.i64_in _ ⟨by omega, by omega⟩]; omega
  go_wp2_with (at_make; refine wpList_plain rfl (fun K hK => wp_make_bytes _ _ _ rfl 0 (n + 300) rfl rfl (by omega) (by omega) ?_))
  intro W1 o1 k1
  refine hK _ _ ?_
  clear hK K
  try rw [hb] at o1
  have R1 := RX.out.keep k1 (fun _ _ h => h)
  have K1 := hid k1
  clear k1
  go_wp2_with (at_builtin; refine wpList_plain rfl (fun K hK => wp_append_fit _ (.tmp 16) (.tmp 17) rfl b n (n + 300) rfl o1 a2 c2 L rfl R1 HN.out (by omega) x ?_))
  intro W2 rm2 k2
  refine hK _ _ ?_
  clear hK K
  have RM := hid rm2
  have K2 := hid (K1.out.then k2 (fun y hy => .inr (by omega)))
  clear rm2 k2 o1 R1 K1
  go_wp2_with fail
  go_loopw [8] (fun i wr => ∃ k : Nat, n ≤ k ∧ k ≤ n + 300 ∧ i = .int .i64 k ∧ Room wr b n (n + 300) L x k ∧ Keep (fun _ => False) w wr) (fun i _ => n + 300 - (intOf i).toNat)
  case atStart => exact ⟨n, Nat.le_refl _, by omega, rfl, RM.out, K2.out⟩
  case round =>
    obtain ⟨k, hk0, hk, rfl, hR, hK⟩ := hrel
    have R3 := hid hR
    have K3 := hid hK
    clear RM K2 hR hK
    by_cases hlt : k < n + 300
    · have hlt' : (k : Int) < (n : Int) + 300 := by omega
      obtain ⟨⟨u, kc⟩, kf⟩ := R3.out.cell k hlt
      have R4 := hid (R3.out.set hk0 hlt)
      have K4 := hid (K3.out.setCell (p := ⟨b, k, none⟩) (.inr (by dsimp only; omega)) (.int .u8 (x.toNat : Int)))
      go_wp2_with fail
      go_roundw
      case rel => exact ⟨k + 1, by omega, by omega, by go_num, R4.out, K4.out⟩
      case measure => simp [intOf]; omega
    · obtain rfl : k = n + 300 := by omega
      have hlt' : ¬ ((n : Int) + 300 < (n : Int) + 300) := by omega
      have RY := hid (R3.out.read HN.out (by omega) (by unfold maxLen; omega))
      clear hk hk0 hlt
      go_wp2_with fail
      refine (of_any RY.out (by rw [HN.out]; omega)).mono ?_
      rintro _ W5 ⟨rfl, k5⟩
      rw [HS.out]
      have R5 := hid (R3.out.keep k5 (fun h => h))
      have K5 := hid (K3.out.trans k5)
      clear k5 R3 K3 RY
      go_wp2_with fail
      go_loopw [10] (fun i wr => ∃ k : Nat, n ≤ k ∧ k ≤ n + 300 ∧ i = .int .i64 k ∧ wr = W5) (fun i _ => n + 300 - (intOf i).toNat)
      case atStart => exact ⟨n, Nat.le_refl _, by omega, by simp⟩
      case round =>
        obtain ⟨k, hk0, hk, rfl, rfl⟩ := hrel
        by_cases hlt : k < n + 300
        · have hlt2 : (k : Int) < (n : Int) + 300 := by omega
          have kc := R5.out.get k hk0 hlt
          go_wp2_with fail
          go_roundw
          case rel => exact ⟨k + 1, by omega, by omega, by go_num, by first | trivial | rfl⟩
          case measure => simp [intOf]; omega
        · obtain rfl : k = n + 300 := by omega
          clear hk hk0 hlt
          go_wp2_with fail
          refine (dawake_any _).mono ?_
          rintro _ W7 ⟨rfl, k7⟩
          have R7 := hid (R5.out.keep k7 (fun h => h))
          have K7 := hid (K5.out.trans k7)
          have CY := bytes_conv (R7.out.read HN.out (by omega) (by unfold maxLen; omega))
          have CX := bytes_conv (RX.out.keep K7.out (fun _ _ h => h))
          rw [HZ.out] at CX CY
          have b1 := bytes_beq Z
          have b2 := bytes_beq S
          clear k7 R5 K5
          go_wp2_with fail
          refine (of_any (RX.out.keep K7.out (fun _ _ h => h)) (by rw [HN.out]; omega)).mono ?_
          rintro _ W8 ⟨rfl, k8⟩
          rw [HS.out]
          have K8 := hid (K7.out.trans k8)
          clear k8 K7 R7 CX CY
          go_wp2_with fail
          go_ret
          exact ⟨rfl, K8.out.below (fun _ h => h.elim) (Nat.le_refl _)⟩
end Go.Proofs.Ytpijnpapmdnceaa
