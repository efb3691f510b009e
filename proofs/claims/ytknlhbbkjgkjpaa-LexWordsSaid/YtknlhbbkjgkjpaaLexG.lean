/- Two texts, one in the lines behind the other: plain. -/
import Derived.Test.YtknlhbbkjgkjpaaLexA
import Derived.Lib.MapLaws
namespace Go.Proofs.Ytknlhbbkjgkjpaa
open Go Go.RowKit
open Go.Lib (decodeN)

def gu (l : By) (k : Nat) : Nat := (l.getD k 0).toNat
theorem dn (l : By) : decodeL' l = decodeN l.length (gu l 0) (gu l 1) (gu l 2) (gu l 3) := by
  have e : ∀ k, ((bs l).get! k) = l.getD k 0 := fun k => (Go.Lib.getD_get!' (bs l) k).symm
  unfold decodeL'
  rw [Go.Lib.decode_at, bs_size, e, e, e, e]
  rfl
theorem gu_lt (l : By) (k : Nat) : gu l k < 256 := (l.getD k 0).toNat_lt
theorem gu_app (l b : By) (x : UInt8) (k : Nat) (h : k < l.length) : gu (l ++ x :: b) k = gu l k := by
  unfold gu
  rw [List.getD_eq_getElem?_getD, List.getD_eq_getElem?_getD, List.getElem?_append_left h]
theorem gu_mid (l b : By) (x : UInt8) (k : Nat) (h : k = l.length) : gu (l ++ x :: b) k = x.toNat := by
  subst h
  unfold gu
  simp
theorem decN1 (n b0 b1 b2 b3 x c2 c3 : Nat) (hx : x < 128) : decodeN n b0 x c2 c3 = decodeN 1 b0 b1 b2 b3 := by
  have h : ¬ x / 64 = 2 := by omega
  simp [decodeN, h]
theorem decN2 (n b0 b1 b2 b3 x c3 : Nat) (hx : x < 128) (hn : 2 ≤ n) : decodeN n b0 b1 x c3 = decodeN 2 b0 b1 b2 b3 := by
  have h : ¬ x / 64 = 2 := by omega
  have h1 : 1 < n := by omega
  simp [decodeN, h, h1]
theorem decN3 (n b0 b1 b2 b3 x : Nat) (hx : x < 128) (hn : 3 ≤ n) : decodeN n b0 b1 b2 x = decodeN 3 b0 b1 b2 b3 := by
  have h : ¬ x / 64 = 2 := by omega
  have h1 : 1 < n := by omega
  have h2 : 2 < n := by omega
  simp [decodeN, h, h1, h2]
theorem decN4 (n m b0 b1 b2 b3 : Nat) (hn : 4 ≤ n) (hm : 4 ≤ m) : decodeN n b0 b1 b2 b3 = decodeN m b0 b1 b2 b3 := by
  have h1 : 1 < n := by omega
  have h2 : 2 < n := by omega
  have h3 : 3 < n := by omega
  have k1 : 1 < m := by omega
  have k2 : 2 < m := by omega
  have k3 : 3 < m := by omega
  simp [decodeN, h1, h2, h3, k1, k2, k3]
theorem dec_app (l b : By) (x : UInt8) (hl : l ≠ []) (hx : x.toNat < 128) : decodeL' (l ++ x :: b) = decodeL' l := by
  have h0 : 0 < l.length := List.length_pos_iff.2 hl
  rw [dn, dn, gu_app l b x 0 h0]
  have hlen : (l ++ x :: b).length = l.length + 1 + b.length := by simp; omega
  rw [hlen]
  by_cases c1 : l.length = 1
  · rw [gu_mid l b x 1 c1.symm, c1]
    exact decN1 _ _ _ _ _ _ _ _ hx
  · rw [gu_app l b x 1 (by omega)]
    by_cases c2 : l.length = 2
    · rw [gu_mid l b x 2 c2.symm, c2]
      exact decN2 _ _ _ _ _ _ _ hx (by omega)
    · rw [gu_app l b x 2 (by omega)]
      by_cases c3 : l.length = 3
      · rw [gu_mid l b x 3 c3.symm, c3]
        exact decN3 _ _ _ _ _ _ hx (by omega)
      · rw [gu_app l b x 3 (by omega)]
        exact decN4 _ _ _ _ _ _ (by omega) (by omega)
theorem dec_ascii (x : UInt8) (b : By) (hx : x.toNat < 128) : decodeL' (x :: b) = (x.toNat, 1) := by
  rw [dn]
  have : gu (x :: b) 0 = x.toNat := rfl
  rw [this]
  simp [decodeN, hx]
theorem bad_app (c : Nat) (l b : By) (x : UInt8) (hx : x.toNat < 128) : badL c (l ++ x :: b) = badL c l := by
  have e : ((l ++ x :: b).take 3 = pre3) = (l.take 3 = pre3) := by
    by_cases h : 3 ≤ l.length
    · rw [List.take_append_of_le_length h]
    · have f1 : ¬ (l.take 3 = pre3) := fun e => by
        have := congrArg List.length e
        rw [List.length_take] at this
        simp [pre3] at this
        omega
      have f2 : ¬ ((l ++ x :: b).take 3 = pre3) := fun e => by
        have h2 : gu ((l ++ x :: b).take 3) l.length = gu pre3 l.length := by rw [e]
        have h3 : gu ((l ++ x :: b).take 3) l.length = x.toNat := by
          rw [← gu_mid l b x l.length rfl]
          unfold gu
          rw [List.getD_eq_getElem?_getD, List.getD_eq_getElem?_getD, List.getElem?_take, if_pos (by omega)]
        have h4 : gu pre3 l.length ≥ 128 := by
          have : l.length = 0 ∨ l.length = 1 ∨ l.length = 2 := by omega
          rcases this with h | h | h <;> rw [h] <;> decide
        omega
      exact propext ⟨fun h => absurd h f2, fun h => absurd h f1⟩
  unfold badL
  simp only [e]
theorem dec_le (l : By) (h : l ≠ []) : 1 ≤ (decodeL' l).2 ∧ (decodeL' l).2 ≤ l.length := ⟨Go.Lib.decodeL_width l, Go.Lib.decodeL_le l h⟩
theorem lexL_nil' (f : Nat) (t : LS) : lexL f [] t = .inr (endS t) := by
  cases f <;> simp [lexL]
theorem lexL_cons (f : Nat) (l : By) (hl : l ≠ []) (t : LS) : lexL (f + 1) l t =
    if (decodeL' l).1 = 10 then lexL f (l.drop (decodeL' l).2) { endS { t with col := t.col + 1 } with line := t.line + 1, col := 0, rem := false }
    else if badL (decodeL' l).1 l then .inl (t.line, t.col + 1)
    else lexL f (l.drop (decodeL' l).2) (nextS (decodeL' l).1 (l.take (decodeL' l).2) { t with col := t.col + 1 }) := by
  rw [lexL, if_neg hl]
theorem lexL_fuel : ∀ (f g : Nat) (l : By) (t : LS), l.length ≤ f → l.length ≤ g → lexL f l t = lexL g l t
  | 0, g, l, t, hf, _ => by
    have : l = [] := List.eq_nil_of_length_eq_zero (by omega)
    subst this
    rw [lexL_nil', lexL_nil']
  | f + 1, 0, l, t, _, hg => by
    have : l = [] := List.eq_nil_of_length_eq_zero (by omega)
    subst this
    rw [lexL_nil', lexL_nil']
  | f + 1, g + 1, l, t, hf, hg => by
    by_cases h : l = []
    · subst h
      rw [lexL_nil', lexL_nil']
    · obtain ⟨h1, h2⟩ := dec_le l h
      have hd : (l.drop (decodeL' l).2).length ≤ f := by rw [List.length_drop]; omega
      have hd' : (l.drop (decodeL' l).2).length ≤ g := by rw [List.length_drop]; omega
      rw [lexL_cons f l h, lexL_cons g l h, lexL_fuel f g _ _ hd hd', lexL_fuel f g _ _ hd hd']
/-- What follows behind a line's end. -/
def contT (b : By) : Sum (Nat × Nat) LS → Sum (Nat × Nat) LS
  | .inl p => .inl p
  | .inr t => lexL b.length b { t with line := t.line + 1, col := 0, rem := false }
theorem endS_col (t : LS) (c : Nat) : endS { t with col := c } = { endS t with col := c } := by
  unfold endS
  cases h : t.cur <;> simp [h]
theorem lexL_app (b : By) : ∀ (n : Nat) (l : By) (t : LS), l.length ≤ n → lexL (l.length + 1 + b.length) (l ++ 10 :: b) t = contT b (lexL l.length l t)
  | n, [], t, _ => by
    rw [List.nil_append, lexL_nil', List.length_nil, Nat.zero_add, Nat.add_comm, lexL_cons _ _ (by simp), dec_ascii 10 b (by decide)]
    simp only [show (10 : UInt8).toNat = 10 from rfl, if_true, List.drop_succ_cons, List.drop_zero]
    rw [endS_col]
    show lexL _ b _ = lexL _ b _
    congr 1
    have : (endS t).line = t.line := by unfold endS; split <;> rfl
    rw [this]
  | 0, x :: l, t, h => by simp at h
  | n + 1, x :: l, t, h => by
    have hne : x :: l ≠ [] := by simp
    obtain ⟨h1, h2⟩ := dec_le (x :: l) hne
    have e1 : (x :: l).length + 1 + b.length = ((x :: l).length + b.length) + 1 := by omega
    rw [e1, lexL_cons _ _ (by simp), dec_app _ b 10 hne (by decide), bad_app _ _ b 10 (by decide), List.drop_append_of_le_length h2, List.take_append_of_le_length h2]
    have e2 : (x :: l).length = l.length + 1 := rfl
    rw [e2] at h2 h ⊢
    rw [lexL_cons l.length _ hne]
    have hd : ((x :: l).drop (decodeL' (x :: l)).2).length ≤ l.length := by rw [List.length_drop, e2]; omega
    have go : ∀ t', lexL (l.length + 1 + b.length) ((x :: l).drop (decodeL' (x :: l)).2 ++ 10 :: b) t' = contT b (lexL l.length ((x :: l).drop (decodeL' (x :: l)).2) t') := fun t' => by
      rw [lexL_fuel (l.length + 1 + b.length) (((x :: l).drop (decodeL' (x :: l)).2).length + 1 + b.length) _ _ (by simp only [List.length_append, List.length_cons]; omega) (by simp only [List.length_append, List.length_cons]; omega),
        lexL_app b n _ t' (by omega), lexL_fuel _ l.length _ _ (Nat.le_refl _) hd]
    split
    · exact go _
    · split
      · rfl
      · exact go _
/-! So many lines further down. -/
def shW (k : Nat) (x : W3) : W3 := (x.1, x.2.1 + k, x.2.2)
def shT (k : Nat) (ws0 : List W3) (t : LS) : LS := { t with ws := ws0 ++ t.ws.map (shW k), line := t.line + k }
def shS (k : Nat) (ws0 : List W3) : Sum (Nat × Nat) LS → Sum (Nat × Nat) LS
  | .inl p => .inl (p.1 + k, p.2)
  | .inr t => .inr (shT k ws0 t)
theorem endS_sh (k : Nat) (ws0 : List W3) (t : LS) : endS (shT k ws0 t) = shT k ws0 (endS t) := by
  obtain ⟨ws, line, col, cur, rem⟩ := t
  cases cur <;> simp [endS, shT, shW]
theorem nextS_sh (k : Nat) (ws0 : List W3) (c : Nat) (x : By) (t : LS) : nextS c x (shT k ws0 t) = shT k ws0 (nextS c x t) := by
  obtain ⟨ws, line, col, cur, rem⟩ := t
  unfold nextS
  by_cases h : (rem || decide (c = 35) || decide (c = 32)) = true
  · have h' : ((shT k ws0 ⟨ws, line, col, cur, rem⟩).rem || decide (c = 35) || decide (c = 32)) = true := h
    rw [if_pos h, if_pos h']
    exact endS_sh k ws0 ⟨ws, line, col, cur, rem || decide (c = 35)⟩
  · have h' : ¬ ((shT k ws0 ⟨ws, line, col, cur, rem⟩).rem || decide (c = 35) || decide (c = 32)) = true := h
    rw [if_neg h, if_neg h']
    cases cur <;> simp [shT]
theorem lexL_sh (k : Nat) (ws0 : List W3) : ∀ (f : Nat) (l : By) (t : LS), lexL f l (shT k ws0 t) = shS k ws0 (lexL f l t)
  | 0, l, t => by simp only [lexL, shS, endS_sh]
  | f + 1, l, t => by
    by_cases h : l = []
    · subst h
      rw [lexL_nil', lexL_nil', endS_sh]; rfl
    · rw [lexL_cons f l h, lexL_cons f l h]
      have e1 : { shT k ws0 t with col := (shT k ws0 t).col + 1 } = shT k ws0 { t with col := t.col + 1 } := rfl
      rw [e1, endS_sh, nextS_sh]
      have e2 : ({ shT k ws0 (endS { t with col := t.col + 1 }) with line := (shT k ws0 t).line + 1, col := 0, rem := false } : LS) = shT k ws0 { endS { t with col := t.col + 1 } with line := t.line + 1, col := 0, rem := false } := by
        simp [shT]; omega
      rw [e2, lexL_sh k ws0 f, lexL_sh k ws0 f]
      split
      · rfl
      · split
        · rfl
        · rfl

/-! How many lines. -/
theorem gu_take (l : By) (d k : Nat) (h : k < d) : gu (l.take d) k = gu l k := by
  unfold gu
  rw [List.getD_eq_getElem?_getD, List.getD_eq_getElem?_getD, List.getElem?_take, if_pos h]
/-- The bytes of a rune: it is one byte, and that is its number; or each is 128 at least; or it is none. -/
theorem dec_bytes (l : By) (hl : l ≠ []) : ((decodeL' l).1 < 128 ∧ l.take (decodeL' l).2 = [UInt8.ofNat (decodeL' l).1]) ∨ (128 ≤ (decodeL' l).1 ∧ ∀ x ∈ l.take (decodeL' l).2, 128 ≤ x.toNat) := by
  obtain ⟨h1, h2⟩ := dec_le l hl
  have mem : ∀ x ∈ l.take (decodeL' l).2, ∃ k, k < (decodeL' l).2 ∧ x.toNat = gu l k := fun x hx => by
    obtain ⟨k, hk, e⟩ := List.getElem_of_mem hx
    have hk' : k < (decodeL' l).2 := by rw [List.length_take] at hk; omega
    refine ⟨k, hk', ?_⟩
    rw [← e, ← gu_take l _ k hk']
    unfold gu
    rw [List.getD_eq_getElem?_getD, List.getElem?_eq_getElem hk]
    rfl
  have hs := Go.Lib.decodeN_shape l.length (gu l 0) (gu l 1) (gu l 2) (gu l 3)
  have g0 := gu_lt l 0
  rw [← dn] at hs
  rcases hs with ⟨a, e⟩ | ⟨a, _, b, c, e⟩ | ⟨a, _, b, c, x, _, e⟩ | ⟨a, _, b, c, d, x, _, e⟩ | e
  · rw [e]
    refine .inl ⟨a, ?_⟩
    obtain ⟨x, l', rfl⟩ : ∃ x l', l = x :: l' := by
      cases l with
      | nil => exact absurd rfl hl
      | cons x l' => exact ⟨x, l', rfl⟩
    show [x] = [UInt8.ofNat x.toNat]
    simp
  all_goals
    by_cases hb : gu l 0 < 128
    · exfalso
      have := dn l
      rw [e] at this
      simp [decodeN, hb] at this
      try omega
    · rw [e] at mem ⊢
      refine .inr ⟨by dsimp only; omega, fun y hy => ?_⟩
      obtain ⟨k, hk, hy2⟩ := mem y hy
      dsimp only at hk
      rw [hy2]
      first
        | (have : k = 0 := by omega); subst this; omega
        | (have : k = 0 ∨ k = 1 := by omega); rcases this with rfl | rfl <;> omega
        | (have : k = 0 ∨ k = 1 ∨ k = 2 := by omega); rcases this with rfl | rfl | rfl <;> omega
        | (have : k = 0 ∨ k = 1 ∨ k = 2 ∨ k = 3 := by omega); rcases this with rfl | rfl | rfl | rfl <;> omega
theorem count_none (l : By) (h : ∀ x ∈ l, x ≠ 10) : l.count 10 = 0 := List.count_eq_zero.2 (fun hm => h 10 hm rfl)
theorem endS_keeps (t : LS) : (endS t).line = t.line ∧ (endS t).cur = none := by
  obtain ⟨ws, line, col, cur, rem⟩ := t
  cases cur <;> exact ⟨rfl, rfl⟩
theorem nextS_keeps (c : Nat) (x : By) (t : LS) : (nextS c x t).line = t.line := by
  obtain ⟨ws, line, col, cur, rem⟩ := t
  unfold nextS
  split
  · exact (endS_keeps _).1
  · cases cur <;> rfl
theorem lexL_line : ∀ (n : Nat) (l : By) (t t' : LS), l.length ≤ n → lexL l.length l t = .inr t' → t'.line = t.line + l.count 10 ∧ t'.cur = none
  | n, [], t, t', _, h => by
    rw [lexL_nil'] at h
    cases h
    have := endS_keeps t
    exact ⟨by rw [this.1]; rfl, this.2⟩
  | 0, x :: l, t, t', h, _ => by simp at h
  | n + 1, x :: l, t, t', h, e => by
    have hne : x :: l ≠ [] := by simp
    obtain ⟨h1, h2⟩ := dec_le (x :: l) hne
    have e2 : (x :: l).length = l.length + 1 := rfl
    rw [e2] at h2 h e
    rw [lexL_cons l.length _ hne] at e
    have hd : ((x :: l).drop (decodeL' (x :: l)).2).length ≤ l.length := by rw [List.length_drop, e2]; omega
    have hc : (x :: l).count 10 = ((x :: l).take (decodeL' (x :: l)).2).count 10 + ((x :: l).drop (decodeL' (x :: l)).2).count 10 := by
      rw [← List.count_append, List.take_append_drop]
    have db := dec_bytes (x :: l) hne
    have fu : ∀ t, lexL l.length ((x :: l).drop (decodeL' (x :: l)).2) t = lexL ((x :: l).drop (decodeL' (x :: l)).2).length ((x :: l).drop (decodeL' (x :: l)).2) t := fun t => lexL_fuel _ _ _ _ hd (Nat.le_refl _)
    by_cases c10 : (decodeL' (x :: l)).1 = 10
    · rw [if_pos c10, fu] at e
      have ih := lexL_line n _ _ t' (by omega) e
      have ht : (x :: l).take (decodeL' (x :: l)).2 = [10] := by
        rcases db with ⟨_, h⟩ | ⟨h, _⟩
        · rw [h, c10]; rfl
        · omega
      rw [hc, ht]
      refine ⟨?_, ih.2⟩
      rw [ih.1]
      show t.line + 1 + _ = t.line + (1 + _)
      omega
    · rw [if_neg c10] at e
      by_cases hb : badL (decodeL' (x :: l)).1 (x :: l) = true
      · rw [if_pos hb] at e
        cases e
      · rw [if_neg hb, fu] at e
        have ih := lexL_line n _ _ t' (by omega) e
        have ht : ((x :: l).take (decodeL' (x :: l)).2).count 10 = 0 := by
          refine count_none _ (fun y hy e10 => ?_)
          rcases db with ⟨h, h'⟩ | ⟨_, h⟩
          · rw [h'] at hy
            simp at hy
            rw [hy] at e10
            have h3 := congrArg UInt8.toNat e10
            simp at h3
            omega
          · have := h y hy
            rw [e10] at this
            exact absurd this (by decide)
        rw [hc, ht, Nat.zero_add]
        refine ⟨?_, ih.2⟩
        rw [ih.1, nextS_keeps]

/-- Two texts. -/
theorem lex_two (a b : By) (h : a.length + b.length ≤ 4000) :
    ((lexR a).2.1 ≠ 0 → (lexR (a ++ 10 :: b)).2.1 = (lexR a).2.1 ∧ (lexR (a ++ 10 :: b)).1 = []) ∧
    ((lexR a).2.1 = 0 → (lexR b).2.1 ≠ 0 → (lexR (a ++ 10 :: b)).2.1 = (lexR b).2.1 ∧ (lexR (a ++ 10 :: b)).2.2.1 = (lexR b).2.2.1 + (1 + a.count 10) ∧ (lexR (a ++ 10 :: b)).2.2.2 = (lexR b).2.2.2) ∧
    ((lexR a).2.1 = 0 → (lexR b).2.1 = 0 → (lexR (a ++ 10 :: b)).2.1 = 0 ∧ (lexR (a ++ 10 :: b)).1 = (lexR a).1 ++ (lexR b).1.map (shW (1 + a.count 10))) := by
  have ra : lexR a = finR (lexL a.length a lex0) := by unfold lexR; rw [if_neg (by omega)]
  have rb : lexR b = finR (lexL b.length b lex0) := by unfold lexR; rw [if_neg (by omega)]
  have rz : lexR (a ++ 10 :: b) = finR (contT b (lexL a.length a lex0)) := by
    have hl : (a ++ 10 :: b).length = a.length + 1 + b.length := by simp; omega
    unfold lexR
    rw [if_neg (by omega), hl, lexL_app b a.length a lex0 (Nat.le_refl _)]
  rw [ra, rb, rz]
  cases ha : lexL a.length a lex0 with
  | inl p => exact ⟨fun _ => ⟨rfl, rfl⟩, fun h => absurd h (by simp [finR]), fun h => absurd h (by simp [finR])⟩
  | inr ta =>
    obtain ⟨hl, hcu⟩ := lexL_line a.length a lex0 ta (Nat.le_refl _) ha
    have hl' : ta.line = 1 + a.count 10 := hl
    refine ⟨fun h => absurd rfl h, ?_⟩
    have e : contT b (.inr ta) = shS ta.line ta.ws (lexL b.length b lex0) := by
      rw [← lexL_sh]
      show lexL b.length b _ = lexL b.length b _
      congr 1
      obtain ⟨ws, line, col, cur, rem⟩ := ta
      simp only at hcu
      subst hcu
      simp [shT, lex0]
      omega
    rw [e, hl']
    cases hb : lexL b.length b lex0 with
    | inl p => exact ⟨fun _ _ => ⟨rfl, rfl, rfl⟩, fun _ h => absurd h (by simp [finR])⟩
    | inr tb => exact ⟨fun _ h => absurd rfl h, fun _ _ => ⟨rfl, rfl⟩⟩
end Go.Proofs.Ytknlhbbkjgkjpaa
