/- Words are in order, none is empty or has a blank, and no two stand together: plain. -/
import Derived.Test.YtknlhbbkjgkjpaaLexH
namespace Go.Proofs.Ytknlhbbkjgkjpaa
open Go Go.RowKit
open Go.Lib (decodeN)

def wide' (l : By) : Nat := if l = [] then 0 else if (decodeL' l).1 = 65533 ∧ (decodeL' l).2 = 1 then 0 else (decodeL' l).2
/-- What a rune is comes out of its own bytes. -/
theorem dec_own (l r : By) (hl : l ≠ []) (hv : ¬ ((decodeL' l).1 = 65533 ∧ (decodeL' l).2 = 1)) : decodeL' (l.take (decodeL' l).2 ++ r) = decodeL' l := by
  obtain ⟨h1, h2⟩ := dec_le l hl
  have hs := Go.Lib.decodeN_shape l.length (gu l 0) (gu l 1) (gu l 2) (gu l 3)
  rw [← dn] at hs
  have len : (l.take (decodeL' l).2 ++ r).length = (decodeL' l).2 + r.length := by rw [List.length_append, List.length_take]; omega
  have g : ∀ k, k < (decodeL' l).2 → gu (l.take (decodeL' l).2 ++ r) k = gu l k := fun k hk => by
    rw [← gu_take l (decodeL' l).2 k hk]
    unfold gu
    rw [List.getD_eq_getElem?_getD, List.getD_eq_getElem?_getD, List.getElem?_append_left (by rw [List.length_take]; omega)]
  rw [dn, len]
  have e0 := dn l
  rcases hs with ⟨a, e⟩ | ⟨a, n1, b, c, e⟩ | ⟨a, n1, b, c, x, y, e⟩ | ⟨a, n1, b, c, d, x, y, e⟩ | e
  · rw [e] at g ⊢
    rw [g 0 (by dsimp only; omega)]
    simp [decodeN, a]
  · rw [e] at g
    have k0 := g 0 (by dsimp only; omega)
    have k1 := g 1 (by dsimp only; omega)
    rw [e, k0, k1]
    have t1 : ¬ gu l 0 < 128 := by omega
    have t2 : 1 < 2 + r.length := by omega
    simp [decodeN, t1, a, b, t2, c]
  · rw [e] at g
    have k0 := g 0 (by dsimp only; omega)
    have k1 := g 1 (by dsimp only; omega)
    have k2 := g 2 (by dsimp only; omega)
    rw [e, k0, k1, k2]
    have t1 : ¬ gu l 0 < 128 := by omega
    have t0 : ¬ gu l 0 / 32 = 6 := by omega
    have t2 : 1 < 3 + r.length := by omega
    have t3 : 2 < 3 + r.length := by omega
    have t4 : gu l 0 % 16 * 4096 + gu l 1 % 64 * 64 + gu l 2 % 64 ≤ 1114111 := by omega
    simp only [decodeN, t1, t0, a, b, c, t2, t3, if_false, if_true, false_and, and_self, true_and]
    rw [if_pos (by omega)]
  · rw [e] at g
    have k0 := g 0 (by dsimp only; omega)
    have k1 := g 1 (by dsimp only; omega)
    have k2 := g 2 (by dsimp only; omega)
    have k3 := g 3 (by dsimp only; omega)
    rw [e, k0, k1, k2, k3]
    have t1 : ¬ gu l 0 < 128 := by omega
    have t0 : ¬ gu l 0 / 32 = 6 := by omega
    have t00 : ¬ gu l 0 / 16 = 14 := by omega
    have t2 : 1 < 4 + r.length := by omega
    have t3 : 2 < 4 + r.length := by omega
    have t4 : 3 < 4 + r.length := by omega
    simp only [decodeN, t1, t0, t00, a, b, c, d, t2, t3, t4, if_false, if_true, false_and, and_self, true_and]
    rw [if_pos (by omega)]
  · exact absurd (by rw [e]; exact ⟨rfl, rfl⟩) hv

/-- A rune of a word. -/
structure Ru (y : By) : Prop where
  ne : y ≠ []
  wide : ∀ r, wide' (y ++ r) = y.length
  bytes : ∀ b ∈ y, b.toNat ≠ 32 ∧ b.toNat ≠ 10 ∧ b.toNat ≠ 35
/-- A text of n runes. -/
inductive VR : Nat → By → Prop
  | nil : VR 0 []
  | cons {n : Nat} {y x : By} : Ru y → VR n x → VR (n + 1) (y ++ x)
theorem VR.snoc {n : Nat} {x y : By} (h : VR n x) (hy : Ru y) : VR (n + 1) (x ++ y) := by
  induction h with
  | nil => have := VR.cons hy VR.nil; simpa using this
  | cons hr _ ih => rw [List.append_assoc]; exact VR.cons hr ih
theorem VR.bytes {n : Nat} {x : By} (h : VR n x) : ∀ b ∈ x, b.toNat ≠ 32 ∧ b.toNat ≠ 10 ∧ b.toNat ≠ 35 := by
  induction h with
  | nil => intro b hb; cases hb
  | cons hr _ ih =>
    intro b hb
    rcases List.mem_append.1 hb with h | h
    · exact hr.bytes b h
    · exact ih b h

theorem bad_pre (l : By) (hl : l ≠ []) (hb : badL (decodeL' l).1 l = false) : ¬ ((decodeL' l).1 = 65533 ∧ (decodeL' l).2 = 1) := by
  rintro ⟨h1, h2⟩
  unfold badL at hb
  rw [h1] at hb
  simp at hb
  have e : decodeL' l = (65533, 1) := Prod.ext h1 h2
  have hlen : 3 ≤ l.length := by
    have := congrArg List.length hb
    rw [List.length_take] at this
    simp [pre3] at this
    omega
  have k : ∀ j, j < 3 → gu l j = gu pre3 j := fun j hj => by rw [← hb, gu_take l 3 j hj]
  have k0 : gu l 0 = 239 := k 0 (by decide)
  have k1 : gu l 1 = 191 := k 1 (by decide)
  have k2 : gu l 2 = 189 := k 2 (by decide)
  rw [dn, k0, k1, k2] at e
  have t2 : 1 < l.length := by omega
  have t3 : 2 < l.length := by omega
  simp [decodeN, t2, t3] at e
theorem ru_of (l : By) (hl : l ≠ []) (hb : badL (decodeL' l).1 l = false) (h10 : (decodeL' l).1 ≠ 10) (h35 : (decodeL' l).1 ≠ 35) (h32 : (decodeL' l).1 ≠ 32) : Ru (l.take (decodeL' l).2) := by
  obtain ⟨h1, h2⟩ := dec_le l hl
  have hlen : (l.take (decodeL' l).2).length = (decodeL' l).2 := by rw [List.length_take]; omega
  have hv := bad_pre l hl hb
  refine ⟨fun e => ?_, fun r => ?_, fun b hm => ?_⟩
  · rw [e] at hlen
    simp at hlen
    omega
  · have hd := dec_own l r hl hv
    unfold wide'
    rw [if_neg (fun e => by
      have := congrArg List.length e
      rw [List.length_append, hlen] at this
      simp at this
      omega), hd, if_neg hv, hlen]
  · rcases dec_bytes l hl with ⟨hc, e⟩ | ⟨_, h⟩
    · rw [e] at hm
      rw [List.mem_singleton] at hm
      rw [hm]
      have : (UInt8.ofNat (decodeL' l).1).toNat = (decodeL' l).1 := by simp; omega
      rw [this]
      exact ⟨h32, h10, h35⟩
    · have := h b hm
      omega

/-! The order of the words. -/
abbrev P4 := W3 × Nat
structure GoodP (p : P4) : Prop where
  vr : VR p.2 p.1.1
  n1 : 1 ≤ p.2
  line : 1 ≤ p.1.2.1
  col : 1 ≤ p.1.2.2
def Be (line col : Nat) (p : P4) : Prop := p.1.2.1 < line ∨ p.1.2.1 = line ∧ p.1.2.2 + p.2 ≤ col
def Rl (p q : P4) : Prop := p.1.2.1 < q.1.2.1 ∨ p.1.2.1 = q.1.2.1 ∧ p.1.2.2 + p.2 < q.1.2.2
def CurI (line col : Nat) (Q : List P4) (cur : Option (By × Nat)) : Prop := match cur with
  | none => ∀ p ∈ Q, Be line col p
  | some (x, c) => ∃ n, VR n x ∧ 1 ≤ n ∧ 1 ≤ c ∧ c + n = col + 1 ∧ ∀ p ∈ Q, Be line (c - 1) p
structure Inv (t : LS) (Q : List P4) : Prop where
  ws : t.ws = Q.map (·.1)
  good : ∀ p ∈ Q, GoodP p
  ord : Q.Pairwise Rl
  line : 1 ≤ t.line
  cur : CurI t.line t.col Q t.cur
theorem Be.mono {line col col' : Nat} {p : P4} (h : Be line col p) (hc : col ≤ col') : Be line col' p := by
  unfold Be at *; omega
/-- The word ends: its end is at most at col. -/
theorem end_inv {t : LS} {Q : List P4} (h : Inv t Q) (col : Nat) (hc : t.col ≤ col) (h1 : t.cur ≠ none → t.col + 1 ≤ col) : ∃ Q', Inv { endS t with col := col } Q' ∧ (∀ p ∈ Q', Be t.line col p) := by
  obtain ⟨ws, line, c0, cur, rem⟩ := t
  obtain ⟨h1', h2, h3, h4, h5⟩ := h
  cases cur with
  | none => exact ⟨Q, ⟨h1', h2, h3, h4, fun p hp => (h5 p hp).mono hc⟩, fun p hp => (h5 p hp).mono hc⟩
  | some xc =>
    obtain ⟨x, c⟩ := xc
    obtain ⟨n, hv, hn, hc1, hcn, hB⟩ := h5
    have hcol := h1 (by simp)
    dsimp only at hcn hcol h1' h4 hB hc
    have hall : ∀ p ∈ Q ++ [((x, line, c), n)], Be line col p := fun p hp => by
      rcases List.mem_append.1 hp with hp | hp
      · exact (hB p hp).mono (by omega)
      · rw [List.mem_singleton] at hp
        subst hp
        exact .inr ⟨rfl, by dsimp only; omega⟩
    refine ⟨Q ++ [((x, line, c), n)], ⟨?_, fun p hp => ?_, ?_, h4, hall⟩, hall⟩
    · simp [endS, h1']
    · rcases List.mem_append.1 hp with hp | hp
      · exact h2 p hp
      · rw [List.mem_singleton] at hp
        subst hp
        exact ⟨hv, hn, h4, hc1⟩
    · rw [List.pairwise_append]
      refine ⟨h3, by simp, fun p hp q hq => ?_⟩
      rw [List.mem_singleton] at hq
      subst hq
      have := hB p hp
      unfold Be at this
      unfold Rl
      dsimp only
      omega
theorem lexL_inv : ∀ (f : Nat) (l : By) (t : LS) (Q : List P4), l.length ≤ f → Inv t Q →
    (∀ t', lexL f l t = .inr t' → ∃ Q' : List P4, t'.ws = Q'.map (·.1) ∧ (∀ p ∈ Q', GoodP p) ∧ Q'.Pairwise Rl) ∧ (∀ p, lexL f l t = .inl p → 1 ≤ p.1 ∧ 1 ≤ p.2)
  | f, [], t, Q, _, h => by
    rw [lexL_nil']
    refine ⟨fun t' e => ?_, (fun p e => by cases e)⟩
    cases e
    obtain ⟨Q', hq, _⟩ := end_inv h (t.col + 1) (by omega) (fun _ => Nat.le_refl _)
    exact ⟨Q', hq.ws, hq.good, hq.ord⟩
  | 0, x :: l, t, Q, hl, _ => by simp at hl
  | f + 1, x :: l, t, Q, hl, h => by
    have hne : x :: l ≠ [] := by simp
    obtain ⟨d1, d2⟩ := dec_le (x :: l) hne
    have hd : ((x :: l).drop (decodeL' (x :: l)).2).length ≤ f := by rw [List.length_drop]; omega
    rw [lexL_cons f _ hne]
    have ec : { endS { t with col := t.col + 1 } with line := t.line + 1, col := 0, rem := false } = ({ ({ endS t with col := t.col + 1 } : LS) with line := t.line + 1, col := 0, rem := false } : LS) := by rw [endS_col]
    by_cases c10 : (decodeL' (x :: l)).1 = 10
    · rw [if_pos c10, ec]
      obtain ⟨Q', hq, hB⟩ := end_inv h (t.col + 1) (by omega) (fun _ => Nat.le_refl _)
      refine lexL_inv f _ _ Q' hd ⟨hq.ws, hq.good, hq.ord, Nat.le_add_left _ _, ?_⟩
      have hcu : (endS t).cur = none := (endS_keeps t).2
      show CurI (t.line + 1) 0 Q' (endS t).cur
      rw [hcu]
      intro p hp
      have := hB p hp
      unfold Be at *
      omega
    · rw [if_neg c10]
      by_cases hb : badL (decodeL' (x :: l)).1 (x :: l) = true
      · rw [if_pos hb]
        refine ⟨(fun t' e => by cases e), fun p e => ?_⟩
        cases e
        exact ⟨h.line, by dsimp only; omega⟩
      · rw [if_neg hb]
        have hbf : badL (decodeL' (x :: l)).1 (x :: l) = false := by simpa using hb
        generalize hN : nextS (decodeL' (x :: l)).1 ((x :: l).take (decodeL' (x :: l)).2) { t with col := t.col + 1 } = t2
        unfold nextS at hN
        by_cases hc : (t.rem || decide ((decodeL' (x :: l)).1 = 35) || decide ((decodeL' (x :: l)).1 = 32)) = true
        · rw [if_pos hc] at hN
          obtain ⟨Q', hq, hB⟩ := end_inv h (t.col + 1) (by omega) (fun _ => Nat.le_refl _)
          refine lexL_inv f _ t2 Q' hd ?_
          rw [← hN]
          have e3 : endS { t with col := t.col + 1, rem := t.rem || decide ((decodeL' (x :: l)).1 = 35) } = { ({ endS t with col := t.col + 1 } : LS) with rem := t.rem || decide ((decodeL' (x :: l)).1 = 35) } := by
            obtain ⟨ws, line, col, cur, rem⟩ := t
            cases cur <;> rfl
          rw [e3]
          exact ⟨hq.ws, hq.good, hq.ord, hq.line, hq.cur⟩
        · rw [if_neg hc] at hN
          simp only [Bool.or_eq_true, decide_eq_true_eq, not_or] at hc
          have hr := ru_of (x :: l) hne hbf c10 hc.1.2 hc.2
          refine lexL_inv f _ t2 Q hd ?_
          rw [← hN]
          obtain ⟨ws, line, col, cur, rem⟩ := t
          obtain ⟨h1, h2, h3, h4, h5⟩ := h
          cases cur with
          | none =>
            refine ⟨h1, h2, h3, h4, 1, ?_, Nat.le_refl _, by dsimp only; omega, by dsimp only, fun p hp => ?_⟩
            · have := VR.cons hr VR.nil
              simpa using this
            · exact (h5 p hp)
          | some yc =>
            obtain ⟨y, c⟩ := yc
            obtain ⟨n, hv, hn, hc1, hcn, hB⟩ := h5
            exact ⟨h1, h2, h3, h4, n + 1, hv.snoc hr, by omega, hc1, by dsimp only at hcn ⊢; omega, hB⟩
theorem lex_places (l : By) : ((lexR l).2.1 = 0 → ∃ Q : List P4, (lexR l).1 = Q.map (·.1) ∧ (∀ p ∈ Q, GoodP p) ∧ Q.Pairwise Rl) ∧ ((lexR l).2.1 ≠ 0 → (lexR l).1 = [] ∧ ((lexR l).2.1 = 2 ∧ 1 ≤ (lexR l).2.2.1 ∧ 1 ≤ (lexR l).2.2.2 ∨ (lexR l).2.1 = 13 ∧ l.length > 4096 ∧ (lexR l).2.2.1 = 0 ∧ (lexR l).2.2.2 = 0)) ∧ ((lexR l).2.1 = 0 → (lexR l).2.2.1 = 0 ∧ (lexR l).2.2.2 = 0) := by
  unfold lexR
  split
  · rename_i h
    exact ⟨fun h => absurd h (by simp), fun _ => ⟨rfl, .inr ⟨rfl, h, rfl, rfl⟩⟩, fun h => absurd h (by simp)⟩
  · have hi : Inv lex0 [] := ⟨rfl, (fun p hp => by cases hp), List.Pairwise.nil, Nat.le_refl _, (fun p hp => by cases hp)⟩
    have h := lexL_inv l.length l lex0 [] (Nat.le_refl _) hi
    cases hr : lexL l.length l lex0 with
    | inl p => exact ⟨fun h => absurd h (by simp [finR]), fun _ => ⟨rfl, .inl ⟨rfl, h.2 p hr⟩⟩, fun h => absurd h (by simp [finR])⟩
    | inr t => exact ⟨fun _ => h.1 t hr, fun h => absurd rfl h, fun _ => ⟨rfl, rfl⟩⟩
end Go.Proofs.Ytknlhbbkjgkjpaa
