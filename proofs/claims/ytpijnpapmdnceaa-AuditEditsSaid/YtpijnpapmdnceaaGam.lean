/- The program's log and the document's agree. The program's log beside the document's. -/
import Derived.Test.YtpijnpapmdnceaaGaj

namespace Go.Proofs.Ytpijnpapmdnceaa
open Go Go.RowKit

structure Agree (L : Lg) (R : Rl) : Prop where
  ring : L.ring = R.ring
  r1 : 1 ≤ R.ring
  r16 : R.ring ≤ 16
  drop : L.drop = goneR R
  list : L.l = R.all.drop (goneR R)
  base : L.base = R.links.getD (goneR R) zero32
  head : L.head = lastOf R
  len : R.links.length = R.all.length + 1
  link : ∀ j, j < R.all.length → R.links.getD (j + 1) zero32 = chn (R.links.getD j zero32) (R.all.getD j rc0)

theorem ringOf_ok (n : Int) : 1 ≤ ringOf n ∧ ringOf n ≤ 16 := by
  unfold ringOf
  omega
theorem agree_new (n : Int) : Agree (newL n) (newR n) := by
  have h := ringOf_ok n
  have g : goneR (newR n) = 0 := by unfold goneR newR; simp
  refine ⟨rfl, h.1, h.2, by rw [g]; rfl, by rw [g]; rfl, by rw [g]; rfl, rfl, rfl, fun j hj => absurd hj (Nat.not_lt_zero j)⟩
theorem getD_left {α : Type} (l m : List α) (i : Nat) (d : α) (h : i < l.length) : (l ++ m).getD i d = l.getD i d := by
  rw [List.getD_eq_getElem?_getD, List.getD_eq_getElem?_getD, List.getElem?_append_left h]
theorem getD_end {α : Type} (l : List α) (x d : α) : (l ++ [x]).getD l.length d = x := by
  rw [List.getD_eq_getElem?_getD, List.getElem?_append_right (Nat.le_refl _), Nat.sub_self]
  rfl
theorem agree_add {L : Lg} {R : Rl} (h : Agree L R) (r : Rc) : Agree (addL L r) (addR R ⟨(R.all.length : Int), r.t, r.c, r.o, r.e, r.n, r.m, r.a, r.b, r.d⟩) := by
  obtain ⟨h1, h2, h3, h4, h5, h6, h7, h8, h9⟩ := h
  have hs : (L.drop : Int) + (L.l.length : Int) = (R.all.length : Int) := by
    rw [h4, h5, List.length_drop]
    unfold goneR
    omega
  have hl : L.l.length = R.all.length - goneR R := by rw [h5, List.length_drop]
  obtain ⟨x, hx⟩ : ∃ x : Rc, ⟨(R.all.length : Int), r.t, r.c, r.o, r.e, r.n, r.m, r.a, r.b, r.d⟩ = x := ⟨_, rfl⟩
  have hadd : addL L r = pushL (if (L.l.length : Int) = L.ring then cutL L else L) x := by unfold addL; rw [hs, hx]
  rw [hadd, hx]
  have al : (addR R x).all.length = R.all.length + 1 := by unfold addR; simp
  have hlast : chn L.head x = lastOf (addR R x) := by
    unfold lastOf
    rw [al, ← h8]
    show _ = (R.links ++ [chn (lastOf R) x]).getD R.links.length zero32
    rw [getD_end, h7]
  have hlinks : ∀ j, j < (addR R x).all.length → (addR R x).links.getD (j + 1) zero32 = chn ((addR R x).links.getD j zero32) ((addR R x).all.getD j rc0) := by
    intro j hj
    rw [al] at hj
    show (R.links ++ [chn (lastOf R) x]).getD (j + 1) zero32 = chn ((R.links ++ [chn (lastOf R) x]).getD j zero32) ((R.all ++ [x]).getD j rc0)
    by_cases hj2 : j < R.all.length
    · rw [getD_left _ _ _ _ (by omega), getD_left _ _ _ _ (by omega), getD_left _ _ _ _ hj2]
      exact h9 j hj2
    · obtain rfl : j = R.all.length := by omega
      rw [getD_left _ _ R.all.length _ (by omega), getD_end, ← h8, getD_end]
      rfl
  have hlen : (addR R x).links.length = (addR R x).all.length + 1 := by
    rw [al]
    show (R.links ++ [_]).length = _
    rw [List.length_append, h8]
    rfl
  by_cases hf : (L.l.length : Int) = L.ring
  · rw [if_pos hf]
    have hg : goneR (addR R x) = goneR R + 1 := by
      show (addR R x).all.length - R.ring.toNat = _
      rw [al]
      unfold goneR
      rw [h1, hl] at hf
      unfold goneR at hf
      omega
    have hge : goneR R < R.all.length := by
      rw [h1, hl] at hf
      unfold goneR at hf ⊢
      omega
    refine ⟨h1, h2, h3, by rw [hg, ← h4]; rfl, ?_, ?_, hlast, hlen, hlinks⟩
    · show L.l.eraseIdx 0 ++ [x] = (R.all ++ [x]).drop (goneR (addR R x))
      rw [hg, List.drop_append_of_le_length (by omega), h5]
      congr 1
      rw [List.eraseIdx_zero, List.tail_drop]
    · show chn L.base (L.l.getD 0 rc0) = (R.links ++ [_]).getD (goneR (addR R x)) zero32
      rw [hg, getD_left _ _ _ _ (by omega), h9 _ hge, h6, h5]
      congr 1
      rw [List.getD_eq_getElem?_getD, List.getElem?_drop, List.getD_eq_getElem?_getD]
      rfl
  · rw [if_neg hf]
    have h0 : goneR R = 0 := by
      rw [h1, hl] at hf
      unfold goneR at hf ⊢
      omega
    have hg : goneR (addR R x) = 0 := by
      show (addR R x).all.length - R.ring.toNat = _
      rw [al]
      rw [h1, hl, h0] at hf
      unfold goneR at h0
      omega
    refine ⟨h1, h2, h3, by rw [hg, ← h0, ← h4]; rfl, ?_, ?_, hlast, hlen, hlinks⟩
    · show L.l ++ [x] = (R.all ++ [x]).drop (goneR (addR R x))
      rw [hg, h5, h0]
      rfl
    · show L.base = (R.links ++ [_]).getD (goneR (addR R x)) zero32
      rw [hg, getD_left _ _ _ _ (by omega), h6, h0]
end Go.Proofs.Ytpijnpapmdnceaa

namespace Go.Proofs.Ytpijnpapmdnceaa
open Go Go.RowKit

structure Two (w wr : World) (b c : Nat) (v va vl : Value) (L : Lg) (R : Rl) : Prop where
  la : LogAt wr b v L
  ra : RlAt wr c va vl R
  kp : Keep (fun _ => False) w wr
  nb : w.heap.size ≤ b
  nc : w.heap.size ≤ c
  nv : ∀ k, v.ownBlock = some k → w.heap.size ≤ k
  nva : ∀ k, va.ownBlock = some k → w.heap.size ≤ k
  nvl : ∀ k, vl.ownBlock = some k → w.heap.size ≤ k
  bc : b ≠ c
  vc : v.ownBlock ≠ some c
  ab : va.ownBlock ≠ some b
  lb : vl.ownBlock ≠ some b
  av : ∀ k, v.ownBlock = some k → va.ownBlock ≠ some k
  lv : ∀ k, v.ownBlock = some k → vl.ownBlock ≠ some k
section
variable {w wr w' : World} {b c : Nat} {v va vl v' va' vl' : Value} {L L' : Lg} {R R' : Rl}
theorem Two.same (h : Two w wr b c v va vl L R) (k : Keep (fun _ => False) wr w') : Two w w' b c v va vl L R :=
  { h with la := h.la.keep k (fun h => h) (fun _ _ h => h), ra := h.ra.keep k (fun h => h) (fun _ _ h => h) (fun _ _ h => h), kp := h.kp.trans k }
theorem Two.left (h : Two w wr b c v va vl L R) (l : LogAt w' b v' L') (f : ∀ k, v'.ownBlock = some k → v.ownBlock = some k ∨ wr.heap.size ≤ k) (k : Keep (fun k => k = b ∨ v.ownBlock = some k) wr w') : Two w w' b c v' va vl L' R :=
  { la := l
    ra := h.ra.keep k (fun e => e.elim (fun e => h.bc e.symm) (fun e => h.vc e)) (fun k hk e => e.elim (fun e => h.ab (by rw [hk, e])) (fun e => h.av k e hk)) (fun k hk e => e.elim (fun e => h.lb (by rw [hk, e])) (fun e => h.lv k e hk))
    kp := h.kp.then k (fun k hk => .inr (hk.elim (fun e => by rw [e]; exact h.nb) (fun e => h.nv k e)))
    nb := h.nb, nc := h.nc, nva := h.nva, nvl := h.nvl, bc := h.bc, ab := h.ab, lb := h.lb
    nv := fun k hk => (f k hk).elim (h.nv k) (fun e => Nat.le_trans h.kp.size e)
    vc := fun e => (f c e).elim h.vc (fun e => by have := h.ra.lt; omega)
    av := fun k hk e => (f k hk).elim (fun e2 => h.av k e2 e) (fun e2 => by have := (h.ra.oa.lt k e).2; omega)
    lv := fun k hk e => (f k hk).elim (fun e2 => h.lv k e2 e) (fun e2 => by have := (h.ra.ol.lt k e).2; omega) }
theorem Two.right (h : Two w wr b c v va vl L R) (r : RlAt w' c va' vl' R') (fa : ∀ k, va'.ownBlock = some k → va.ownBlock = some k ∨ wr.heap.size ≤ k) (fl : ∀ k, vl'.ownBlock = some k → vl.ownBlock = some k ∨ wr.heap.size ≤ k)
    (k : Keep (fun k => k = c ∨ va.ownBlock = some k ∨ vl.ownBlock = some k) wr w') : Two w w' b c v va' vl' L R' :=
  { la := h.la.keep k (fun e => e.elim (fun e => h.bc e) (fun e => e.elim h.ab h.lb)) (fun k hk e => e.elim (fun e => h.vc (by rw [hk, e])) (fun e => e.elim (h.av k hk) (h.lv k hk)))
    ra := r
    kp := h.kp.then k (fun k hk => .inr (hk.elim (fun e => by rw [e]; exact h.nc) (fun e => e.elim (h.nva k) (h.nvl k))))
    nb := h.nb, nc := h.nc, nv := h.nv, bc := h.bc, vc := h.vc
    nva := fun k hk => (fa k hk).elim (h.nva k) (fun e => Nat.le_trans h.kp.size e)
    nvl := fun k hk => (fl k hk).elim (h.nvl k) (fun e => Nat.le_trans h.kp.size e)
    ab := fun e => (fa b e).elim h.ab (fun e => by have := h.la.lt; omega)
    lb := fun e => (fl b e).elim h.lb (fun e => by have := h.la.lt; omega)
    av := fun k hk e => (fa k e).elim (fun e2 => h.av k hk e2) (fun e2 => by have := (h.la.own.lt k hk).2; omega)
    lv := fun k hk e => (fl k e).elim (fun e2 => h.lv k hk e2) (fun e2 => by have := (h.la.own.lt k hk).2; omega) }
/-- Just made. -/
theorem Two.new {w w1 w2 : World} {b c : Nat} {vl : Value} {n : Int} (l : LogAt w1 b (.slice none 0 0) (newL n)) (hb : w.heap.size ≤ b) (k1 : Keep (fun _ => False) w w1)
    (r : RlAt w2 c (.slice none 0 0) vl (newR n)) (hc : w1.heap.size ≤ c) (hl : ∀ k, vl.ownBlock = some k → w1.heap.size ≤ k) (k2 : Keep (fun _ => False) w1 w2) : Two w w2 b c (.slice none 0 0) (.slice none 0 0) vl (newL n) (newR n) :=
  { la := l.keep k2 (fun h => h) (fun _ _ h => h), ra := r, kp := k1.trans k2, nb := hb, nc := Nat.le_trans k1.size hc
    nv := fun k hk => (by cases hk), nva := fun k hk => (by cases hk), nvl := fun k hk => Nat.le_trans k1.size (hl k hk)
    bc := fun e => (by have := l.lt; omega), vc := fun e => (by cases e), ab := fun e => (by cases e), lb := fun e => (by have := l.lt; have := hl b e; omega)
    av := fun k hk => (by cases hk), lv := fun k hk => (by cases hk) }
end
/-- Both views are one. -/
theorem views_same {L : Lg} {R : Rl} (h : Agree L R) : decide ((L.drop : Int) = (goneR R : Int) ∧ L.base = R.links.getD (goneR R) zero32 ∧ L.head = lastOf R ∧ L.l = R.all.drop (goneR R)) = true :=
  decide_eq_true ⟨by rw [h.drop], h.base, h.head, h.list⟩
end Go.Proofs.Ytpijnpapmdnceaa
