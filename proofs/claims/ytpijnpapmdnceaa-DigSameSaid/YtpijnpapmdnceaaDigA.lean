/- Bytes; eight of them as a number. -/
import Derived.Test.YtpijnpapmdnceaaKecD
namespace Go.Proofs.Ytpijnpapmdnceaa
open Go Go.RowKit

abbrev B8 := BitVec 8
def flat8 (l : List B8) : List Value := l.map fun x => .int .u8 (x.toNat : Int)
def gb (l : List B8) (i : Nat) : B8 := l.getD i 0#8
/-- A list of bytes that can be read. -/
def ReadY (w : World) (v : Value) (l : List B8) : Prop :=
  (∃ a c, v = .slice a 0 c ∧ l = []) ∨ ∃ g off c, v = .slice (some ⟨g, off, none⟩) l.length c ∧ g < w.heap.size ∧ l.length ≤ maxLen ∧ ∀ i, i < l.length → w.cell? ⟨g, off + i, none⟩ = some (.int .u8 ((gb l i).toNat : Int))

theorem ReadY.form {w : World} {v : Value} {l : List B8} (h : ReadY w v l) : ∃ a c, v = .slice a l.length c := by
  rcases h with ⟨a, c, rfl, rfl⟩ | ⟨g, off, c, rfl, _⟩
  · exact ⟨a, c, rfl⟩
  · exact ⟨_, c, rfl⟩
theorem ReadY.at {w : World} {v : Value} {l : List B8} (h : ReadY w v l) {n : Nat} (hn : l.length = n) (hp : 0 < n) : ∃ g off c, v = .slice (some ⟨g, off, none⟩) n c ∧ g < w.heap.size ∧ n ≤ maxLen ∧ ∀ i, i < n → w.cell? ⟨g, off + i, none⟩ = some (.int .u8 ((gb l i).toNat : Int)) := by
  subst hn
  rcases h with ⟨_, _, _, h0⟩ | ⟨g, off, c, h1, h2, h3, h4⟩
  · rw [h0] at hp; exact absurd hp (Nat.lt_irrefl _)
  · exact ⟨g, off, c, h1, h2, h3, h4⟩
theorem ReadY.keep {F : Nat → Prop} {w w' : World} {v : Value} {l : List B8} (h : ReadY w v l) (hK : Keep F w w') (hF : ∀ k, v.ownBlock = some k → ¬ F k) : ReadY w' v l := by
  rcases h with h | ⟨g, off, c, h1, h2, h3, h4⟩
  · exact .inl h
  · refine .inr ⟨g, off, c, h1, Nat.lt_of_lt_of_le h2 hK.size, h3, fun i hi => (hK.cell (p := ⟨g, off + i, none⟩) h2 (hF g ?_)).trans (h4 i hi)⟩
    rw [h1]; rfl

/-- A byte in its place of a lane. -/
def inl8 (x : B8) (k : Nat) : L64 := (x.zeroExtend 64) <<< (8 * k)
def num (l : List B8) : Nat → L64
  | 0 => 0#64
  | k + 1 => num l k ||| inl8 (gb l k) k

theorem b8_lt (x : B8) : (x.toNat : Int) ≤ 255 := by have := x.isLt; omega
theorem ext8 (x : B8) : (x.zeroExtend 64).toNat = x.toNat := by
  have := x.isLt
  simp only [BitVec.truncate_eq_setWidth, BitVec.toNat_setWidth]
  omega
theorem inl8_val (x : B8) (k : Nat) : IntKind.u64.wrap ((x.toNat : Int) * 2 ^ (8 * k)) = ((inl8 x k).toNat : Int) := by
  have := shl_val (x.zeroExtend 64) (8 * k)
  rw [ext8] at this
  exact this

set_option maxRecDepth 10000 in
set_option maxHeartbeats 1000000 in
theorem number_any {w : World} {v : Value} {l : List B8} (h : ReadY w v l) (hl : l.length ≤ 8) :
    Calls Try.prog 33 #[v] w fun e w' => e = .returned (.int .u64 ((num l l.length).toNat : Int)) ∧ w = w' := by
  obtain ⟨a, c, hv⟩ := h.form
  have HV := hid hv
  have H := hid h
  subst hv
  obtain ⟨n, hn⟩ : ∃ n, l.length = n := ⟨_, rfl⟩
  have HN := hid hn
  rw [hn] at H HV hl ⊢
  clear h hn
  go_enter Try.func33, Try.ntmps33
  go_wp2_with fail
  go_loop [3, 8] (fun x i => ∃ k : Nat, k ≤ n ∧ i = .int .i64 k ∧ x = .int .u64 ((num l k).toNat : Int)) (fun _ i => n - (intOf i).toNat)
  case atStart => exact ⟨0, Nat.zero_le _, rfl, rfl⟩
  case round =>
    obtain ⟨k, hk, rfl, rfl⟩ := hrel
    by_cases hlt : k < n
    · have hlt' : (k : Int) < (n : Int) := by omega
      obtain ⟨g, off, c1, hv1, hg, hmx, hc⟩ := H.out.at HN.out (by omega)
      simp only [Value.slice.injEq] at hv1
      obtain ⟨rfl, -, rfl⟩ := hv1
      have kc := hc k hlt
      have NS : Hid (num l (k + 1) = num l k ||| inl8 (gb l k) k) := hid rfl
      obtain ⟨x, hx⟩ : ∃ x, gb l k = x := ⟨_, rfl⟩
      obtain ⟨o, ho⟩ : ∃ o, num l k = o := ⟨_, rfl⟩
      rw [hx] at kc NS
      rw [ho] at NS ⊢
      have e8 : IntKind.i64.wrap (8 * (k : Int)) = ((8 * k : Nat) : Int) := by rw [IntWalk.i64_in _ ⟨by omega, by omega⟩]; omega
      have b8 := b8_lt x
      have IV := hid (inl8_val x k)
      have OV := hid (or_val o (inl8 x k))
      unfold maxLen at hmx
      clear hc hx ho
      go_wp2_with fail
      go_round
      case rel => exact ⟨k + 1, by omega, by go_num, by rw [NS.out, IV.out, OV.out]⟩
      case measure => simp [intOf]; omega
    · obtain rfl : k = n := by omega
      have hlt' : ¬ ((k : Int) < (k : Int)) := by omega
      go_wp2
      go_ret
      exact ⟨rfl, rfl⟩

/-- Byte i of the padded bytes, of which there are so many. -/
def patb (l : List B8) (all i : Nat) : B8 := if i < l.length then gb l i else (if i = l.length then 6#8 else 0#8) + (if i + 1 = all then 128#8 else 0#8)

set_option maxHeartbeats 1000000 in
theorem rat_any {w : World} {v : Value} {l : List B8} (h : ReadY w v l) (all i : Nat) (h1 : l.length < all) (h2 : i < all) (h3 : all ≤ 100000) :
    Calls Try.prog 34 #[v, .int .i64 (i : Int), .int .i64 (all : Int)] w fun e w' => e = .returned (.int .u8 ((patb l all i).toNat : Int)) ∧ w = w' := by
  obtain ⟨a, c, hv⟩ := h.form
  have H := hid h
  subst hv
  obtain ⟨n, hn⟩ : ∃ n, l.length = n := ⟨_, rfl⟩
  have HN := hid hn
  have PB : Hid (patb l all i = if i < n then gb l i else (if i = n then 6#8 else 0#8) + (if i + 1 = all then 128#8 else 0#8)) := hid (by unfold patb; rw [hn])
  rw [hn] at H h1 ⊢
  clear h hn
  by_cases c1 : i < n
  · have c1' : (i : Int) < (n : Int) := by omega
    obtain ⟨g, off, c1, hv1, hg, hmx, hc⟩ := H.out.at HN.out (by omega)
    simp only [Value.slice.injEq] at hv1
    obtain ⟨rfl, -, rfl⟩ := hv1
    have kc := hc i c1
    have E := hid (PB.out.trans (if_pos c1))
    obtain ⟨x, hx⟩ : ∃ x, gb l i = x := ⟨_, rfl⟩
    rw [hx] at kc E
    have n1 : ((i : Int) == (n : Int)) = false := by simp; omega
    have n2 : ((i : Int) == (all : Int) - 1) = false := by simp; omega
    unfold maxLen at hmx
    clear hc hx c1
    go_enter Try.func34, Try.ntmps34
    go_wp2
    go_ret
    exact ⟨by rw [E.out]; rfl, rfl⟩
  · have c1' : ¬ ((i : Int) < (n : Int)) := by omega
    have E := PB.out.trans (if_neg c1)
    by_cases c2 : i = n
    · have n1 : ((i : Int) == (n : Int)) = true := by simp [c2]
      rw [if_pos c2] at E
      by_cases c3 : i + 1 = all
      · have n2 : ((i : Int) == (all : Int) - 1) = true := by simp; omega
        rw [if_pos c3] at E
        have E := hid E
        clear c1 c2 c3 H PB HN
        go_enter Try.func34, Try.ntmps34
        go_wp2
        go_ret
        exact ⟨by first | rfl | (rw [E.out]; rfl), rfl⟩
      · have n2 : ((i : Int) == (all : Int) - 1) = false := by simp; omega
        rw [if_neg c3] at E
        have E := hid E
        clear c1 c2 c3 H PB HN
        go_enter Try.func34, Try.ntmps34
        go_wp2
        go_ret
        exact ⟨by first | rfl | (rw [E.out]; rfl), rfl⟩
    · have n1 : ((i : Int) == (n : Int)) = false := by simp; omega
      rw [if_neg c2] at E
      by_cases c3 : i + 1 = all
      · have n2 : ((i : Int) == (all : Int) - 1) = true := by simp; omega
        rw [if_pos c3] at E
        have E := hid E
        clear c1 c2 c3 H PB HN
        go_enter Try.func34, Try.ntmps34
        go_wp2
        go_ret
        exact ⟨by first | rfl | (rw [E.out]; rfl), rfl⟩
      · have n2 : ((i : Int) == (all : Int) - 1) = false := by simp; omega
        rw [if_neg c3] at E
        have E := hid E
        clear c1 c2 c3 H PB HN
        go_enter Try.func34, Try.ntmps34
        go_wp2
        go_ret
        exact ⟨by first | rfl | (rw [E.out]; rfl), rfl⟩
end Go.Proofs.Ytpijnpapmdnceaa
