/- The walk of BufferPlays: the program's buffer answers as the reference's does. -/
import Derived.Test.YteobmdkghdjapaaBufI
namespace Go.Proofs.Yteobmdkghdjapaa
open Go.RowKit

/-- Both buffers, side by side. -/
structure Both (w W : World) (b r : Nat) (l : List (Int × Int)) (m : Nat) : Prop where
  ne : b ≠ r
  lo : w.heap.size ≤ b
  hi : w.heap.size ≤ r
  buf : IsBuf W b l m
  ref : ∃ v, IsRef W r v l m ∧ (∀ k, v.ownBlock = some k → w.heap.size ≤ k ∧ k ≠ b)
  low : Below w.heap.size w W

theorem Both.keep {w W W' : World} {b r : Nat} {l : List (Int × Int)} {m : Nat} (h : Both w W b r l m) (hK : Keep (fun _ => False) W W') : Both w W' b r l m := by
  obtain ⟨v, hv, hf⟩ := h.ref
  exact ⟨h.ne, h.lo, h.hi, h.buf.keep hK (fun h => h), ⟨v, hv.keep hK (fun h => h) (fun _ _ h => h), hf⟩, h.low.trans (hK.below (fun _ h => h.elim) h.low.size)⟩

/-- One more for both: the same answer. -/
theorem Both.put {w W : World} {b r : Nat} {l : List (Int × Int)} {m : Nat} (t e : Int) (h : Both w W b r l m) :
    Calls Try.prog 14 #[.pointer (some ⟨b, 0, none⟩), .agg #[.int .i64 t, .int .i64 e]] W fun en1 W1 => ∃ x : Bool, en1 = .returned (.bool x) ∧ Keep (fun k => k = b) W W1 ∧
      Hid (Calls Try.prog 15 #[.pointer (some ⟨r, 0, none⟩), .agg #[.int .i64 t, .int .i64 e]] W1 fun en2 W2 => en2 = .returned (.bool x) ∧ Keep (fun k => k = r) W1 W2 ∧ ∃ l', Both w W2 b r l' m) := by
  refine (put_any t e h.buf).mono ?_
  rintro _ W1 ⟨x, rfl, K1, hx⟩
  refine ⟨x, rfl, K1, ?_⟩
  obtain ⟨v, hv, hf⟩ := h.ref
  have hv1 := hv.keep K1 (fun e => h.ne e.symm) (fun k hk e => (hf k hk).2 e)
  have h8 := h.buf.le8
  have hle := h.buf.le
  have B1 := h.low.trans (K1.below (B := w.heap.size) (fun j (e : j = b) => by rw [e]; exact h.lo) h.low.size)
  refine (rput_any t e hv1 (by omega)).mono ?_
  rintro _ W2 ⟨y, v', rfl, K2, hfr, hy⟩
  have B2 := B1.trans (K2.below (B := w.heap.size) (fun j (e : j = r) => by rw [e]; exact h.hi) B1.size)
  have hf2 : ∀ k, v'.ownBlock = some k → w.heap.size ≤ k ∧ k ≠ b := fun k hk => by
    rcases hfr k hk with h1 | h1
    · exact hf k h1
    · have := B1.size
      have hb := h.buf.lt
      have := K1.size
      exact ⟨by omega, by omega⟩
  have mk : ∀ l', IsBuf W1 b l' m → IsRef W2 r v' l' m → Both w W2 b r l' m := fun l' hb hr =>
    ⟨h.ne, h.lo, h.hi, hb.keep K2 (fun e => h.ne e), ⟨v', hr, hf2⟩, B2⟩
  rcases hx with ⟨rfl, hc, hb⟩ | ⟨rfl, hc, hn, hb⟩ <;> rcases hy with ⟨rfl, hd, hr⟩ | ⟨rfl, hd, hm, hr⟩
  · exact ⟨rfl, K2, l, mk l hb hr⟩
  · exfalso
    rcases hc with hc | ⟨i, hi, he⟩
    · omega
    · exact hm i hi he
  · exfalso
    rcases hd with hd | ⟨i, hi, he⟩
    · omega
    · exact hn i hi he
  · exact ⟨rfl, K2, _, mk _ hb hr⟩

/-- Both are told: the same. -/
theorem Both.deliver {w W : World} {b r : Nat} {l : List (Int × Int)} {m : Nat} (h : Both w W b r l m) :
    Calls Try.prog 18 #[.pointer (some ⟨b, 0, none⟩)] W fun en1 W1 => ∃ u, en1 = .returned u ∧
      Hid (Calls Try.prog 19 #[.pointer (some ⟨r, 0, none⟩)] W1 fun en2 W2 => ∃ v, en2 = .returned v ∧
        Hid (Calls Try.prog 17 #[u, v] W2 fun en3 W3 => en3 = .returned (.bool true) ∧ Both w W3 b r [] m)) := by
  refine (deliver_any h.buf).mono ?_
  rintro _ W1 ⟨u, rfl, hu, hfu, hb1, K1⟩
  refine ⟨u, rfl, ?_⟩
  obtain ⟨v, hv, hf⟩ := h.ref
  have hv1 := hv.keep K1 (fun e => h.ne e.symm) (fun k hk e => (hf k hk).2 e)
  have hle := h.buf.le
  have h8 := h.buf.le8
  have B1 := h.low.trans (K1.below (B := w.heap.size) (fun j (e : j = b) => by rw [e]; exact h.lo) h.low.size)
  have hrlt := hv.lt
  have hown := hv.own.lt
  refine (rdeliver_any hv1 hle h8).mono ?_
  rintro _ W2 ⟨v', rfl, hv', hfv, hr2, K2⟩
  refine ⟨v', rfl, ?_⟩
  have B2 := B1.trans (K2.below (B := w.heap.size) (fun j e => by
    rcases e with e | e
    · rw [e]; exact h.hi
    · exact (hf j e).1) B1.size)
  have hu2 := owns_keep hu K2 (fun k hk e => by
    have := hfu k hk
    rcases e with e | e
    · omega
    · have := (hown k e).2; omega)
  have hb2 := hb1.keep K2 (fun e => by
    rcases e with e | e
    · exact h.ne e
    · exact (hf b e).2 rfl)
  refine (alike_any (Wakes.reads hu2) hv'.reads).mono ?_
  rintro _ W3 ⟨rfl, K3⟩
  have e : alikeB (l ++ zeros2 (m - l.length)) (l ++ zeros2 (m - l.length)) = true := by simp [alikeB]
  refine ⟨by rw [e], ?_⟩
  have : Both w W2 b r [] m := ⟨h.ne, h.lo, h.hi, hb2, ⟨_, hr2, fun k hk => by simp [Value.ownBlock] at hk⟩, B2⟩
  exact this.keep K3

end Go.Proofs.Yteobmdkghdjapaa
