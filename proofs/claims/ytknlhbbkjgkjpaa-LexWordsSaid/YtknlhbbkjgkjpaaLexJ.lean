/- Blanks ahead of a line, a remark behind it: plain. -/
import Derived.Test.YtknlhbbkjgkjpaaLexH
namespace Go.Proofs.Ytknlhbbkjgkjpaa
open Go Go.RowKit

theorem no10 (l : By) (hl : l ≠ []) (h : (10 : UInt8) ∉ l) : (decodeL' l).1 ≠ 10 := by
  intro e
  rcases dec_bytes l hl with ⟨_, h'⟩ | ⟨h', _⟩
  · rw [e] at h'
    refine h (List.mem_of_mem_take (i := (decodeL' l).2) ?_)
    rw [h']
    simp
  · omega
theorem no10_drop (l : By) (d : Nat) (h : (10 : UInt8) ∉ l) : (10 : UInt8) ∉ l.drop d := fun hm => h (List.mem_of_mem_drop hm)

/-! Behind a '#'. -/
def contR (b : By) : Sum (Nat × Nat) LS → Sum (Nat × Nat) LS
  | .inl p => .inl p
  | .inr t => lexL b.length b { t with col := t.col + 1, rem := true }
theorem endS_rem (t : LS) (c : Nat) (r : Bool) : endS { t with col := c, rem := r } = { endS t with col := c, rem := r } := by
  obtain ⟨ws, line, col, cur, rem⟩ := t
  cases cur <;> rfl
theorem endS_colof (t : LS) : (endS t).col = t.col := by
  obtain ⟨ws, line, col, cur, rem⟩ := t
  cases cur <;> rfl
theorem lexL_hash (b : By) : ∀ (n : Nat) (l : By) (t : LS), l.length ≤ n → lexL (l.length + 1 + b.length) (l ++ 35 :: b) t = contR b (lexL l.length l t)
  | n, [], t, _ => by
    rw [List.nil_append, lexL_nil', List.length_nil, Nat.zero_add, Nat.add_comm, lexL_cons _ _ (by simp), dec_ascii 35 b (by decide)]
    simp only [show (35 : UInt8).toNat = 35 from rfl, List.drop_succ_cons, List.drop_zero]
    rw [if_neg (by decide), if_neg (by simp [badL])]
    show lexL _ b _ = lexL _ b _
    congr 1
    unfold nextS
    rw [if_pos (by simp)]
    simp only [decide_true, Bool.or_true]
    rw [endS_rem, endS_colof]
  | 0, x :: l, t, h => by simp at h
  | n + 1, x :: l, t, h => by
    have hne : x :: l ≠ [] := by simp
    obtain ⟨h1, h2⟩ := dec_le (x :: l) hne
    have e1 : (x :: l).length + 1 + b.length = ((x :: l).length + b.length) + 1 := by omega
    rw [e1, lexL_cons _ _ (by simp), dec_app _ b 35 hne (by decide), bad_app _ _ b 35 (by decide), List.drop_append_of_le_length h2, List.take_append_of_le_length h2]
    have e2 : (x :: l).length = l.length + 1 := rfl
    rw [e2] at h2 h ⊢
    rw [lexL_cons l.length _ hne]
    have hd : ((x :: l).drop (decodeL' (x :: l)).2).length ≤ l.length := by rw [List.length_drop, e2]; omega
    have go : ∀ t', lexL (l.length + 1 + b.length) ((x :: l).drop (decodeL' (x :: l)).2 ++ 35 :: b) t' = contR b (lexL l.length ((x :: l).drop (decodeL' (x :: l)).2) t') := fun t' => by
      rw [lexL_fuel (l.length + 1 + b.length) (((x :: l).drop (decodeL' (x :: l)).2).length + 1 + b.length) _ _ (by simp only [List.length_append, List.length_cons]; omega) (by simp only [List.length_append, List.length_cons]; omega),
        lexL_hash b n _ t' (by omega), lexL_fuel _ l.length _ _ (Nat.le_refl _) hd]
    split
    · exact go _
    · split
      · rfl
      · exact go _

/-! Further to the right, in one line. -/
def shCW (k : Nat) (x : W3) : W3 := (x.1, x.2.1, x.2.2 + k)
def shC (k : Nat) (t : LS) : LS := { t with ws := t.ws.map (shCW k), col := t.col + k, cur := t.cur.map fun x => (x.1, x.2 + k) }
def shCS (k : Nat) : Sum (Nat × Nat) LS → Sum (Nat × Nat) LS
  | .inl p => .inl (p.1, p.2 + k)
  | .inr t => .inr (shC k t)
theorem endS_shC (k : Nat) (t : LS) : endS (shC k t) = shC k (endS t) := by
  obtain ⟨ws, line, col, cur, rem⟩ := t
  cases cur <;> simp [endS, shC, shCW]
theorem nextS_shC (k : Nat) (c : Nat) (x : By) (t : LS) : nextS c x (shC k t) = shC k (nextS c x t) := by
  obtain ⟨ws, line, col, cur, rem⟩ := t
  unfold nextS
  by_cases h : (rem || decide (c = 35) || decide (c = 32)) = true
  · have h' : ((shC k ⟨ws, line, col, cur, rem⟩).rem || decide (c = 35) || decide (c = 32)) = true := h
    rw [if_pos h, if_pos h']
    exact endS_shC k ⟨ws, line, col, cur, rem || decide (c = 35)⟩
  · have h' : ¬ ((shC k ⟨ws, line, col, cur, rem⟩).rem || decide (c = 35) || decide (c = 32)) = true := h
    rw [if_neg h, if_neg h']
    cases cur <;> simp [shC]
theorem lexL_shC (k : Nat) : ∀ (f : Nat) (l : By) (t : LS), (10 : UInt8) ∉ l → lexL f l (shC k t) = shCS k (lexL f l t)
  | 0, l, t, _ => by simp only [lexL, shCS, endS_shC]
  | f + 1, l, t, hn => by
    by_cases h : l = []
    · subst h
      rw [lexL_nil', lexL_nil', endS_shC]; rfl
    · rw [lexL_cons f l h, lexL_cons f l h, if_neg (no10 l h hn), if_neg (no10 l h hn)]
      have e1 : { shC k t with col := (shC k t).col + 1 } = shC k { t with col := t.col + 1 } := by
        simp [shC]; omega
      rw [e1, nextS_shC, lexL_shC k f _ _ (no10_drop l _ hn)]
      split
      · show Sum.inl (t.line, t.col + k + 1) = Sum.inl (t.line, t.col + 1 + k)
        congr 2
        omega
      · rfl

/-! A remark. -/
theorem lexL_rem : ∀ (f : Nat) (l : By) (t t0 : LS), (10 : UInt8) ∉ l → t.rem = true → t.cur = none →
    (∀ p, lexL f l t0 = .inl p → ∃ q, lexL f l t = .inl q) ∧ (∀ t0', lexL f l t0 = .inr t0' → ∃ t', lexL f l t = .inr t' ∧ t'.ws = t.ws)
  | 0, l, t, t0, _, _, hc => by
    refine ⟨(fun p e => by simp [lexL] at e), fun t0' _ => ⟨endS t, by simp [lexL], ?_⟩⟩
    unfold endS
    rw [hc]
  | f + 1, l, t, t0, hn, hr, hc => by
    by_cases h : l = []
    · subst h
      refine ⟨(fun p e => by rw [lexL_nil'] at e; cases e), fun t0' _ => ⟨endS t, by rw [lexL_nil'], ?_⟩⟩
      unfold endS
      rw [hc]
    · rw [lexL_cons f l h, lexL_cons f l h, if_neg (no10 l h hn), if_neg (no10 l h hn)]
      by_cases hb : badL (decodeL' l).1 l = true
      · rw [if_pos hb, if_pos hb]
        exact ⟨fun p _ => ⟨_, rfl⟩, fun t0' e => by cases e⟩
      · rw [if_neg hb, if_neg hb]
        have e : nextS (decodeL' l).1 (l.take (decodeL' l).2) { t with col := t.col + 1 } = { t with col := t.col + 1 } := by
          obtain ⟨ws, line, col, cur, rem⟩ := t
          simp only at hr hc
          subst hr hc
          simp [nextS, endS]
        rw [e]
        exact lexL_rem f _ { t with col := t.col + 1 } _ (no10_drop l _ hn) hr hc

/-! Blanks. -/
theorem lexL_blanks (b : By) : ∀ (n : Nat) (t : LS), t.cur = none → t.rem = false → lexL (n + b.length) (List.replicate n 32 ++ b) t = lexL b.length b { t with col := t.col + n }
  | 0, t, _, _ => by simp
  | n + 1, t, hc, hr => by
    have e1 : n + 1 + b.length = (n + b.length) + 1 := by omega
    rw [e1, List.replicate_succ, List.cons_append, lexL_cons _ _ (by simp), dec_ascii 32 _ (by decide)]
    simp only [show (32 : UInt8).toNat = 32 from rfl, List.drop_succ_cons, List.drop_zero]
    rw [if_neg (by decide), if_neg (by simp [badL])]
    have e : nextS 32 (List.take 1 (32 :: (List.replicate n 32 ++ b))) { t with col := t.col + 1 } = { t with col := t.col + 1 } := by
      obtain ⟨ws, line, col, cur, rem⟩ := t
      simp only at hr hc
      subst hr hc
      simp [nextS, endS]
    rw [e, lexL_blanks b n { t with col := t.col + 1 } hc hr]
    congr 1
    show ({ t with col := t.col + 1 + n } : LS) = { t with col := t.col + (n + 1) }
    congr 1
    omega

theorem lex_blanks (s r : By) (n : Nat) (hs : (10 : UInt8) ∉ s) (hr : (10 : UInt8) ∉ r) (h : s.length + r.length ≤ 3000) (hn : n ≤ 255) :
    ((lexR s).2.1 ≠ 0 ∨ (lexR r).2.1 ≠ 0 → (lexR (List.replicate n 32 ++ s ++ 35 :: r)).2.1 = 2) ∧
    ((lexR s).2.1 = 0 → (lexR r).2.1 = 0 → (lexR (List.replicate n 32 ++ s ++ 35 :: r)).2.1 = 0 ∧ (lexR (List.replicate n 32 ++ s ++ 35 :: r)).1 = (lexR s).1.map (shCW n)) := by
  have rs : lexR s = finR (lexL s.length s lex0) := by unfold lexR; rw [if_neg (by omega)]
  have rr : lexR r = finR (lexL r.length r lex0) := by unfold lexR; rw [if_neg (by omega)]
  have rz : lexR (List.replicate n 32 ++ s ++ 35 :: r) = finR (contR r (shCS n (lexL s.length s lex0))) := by
    have hl : (List.replicate n 32 ++ s ++ 35 :: r).length = n + (s ++ 35 :: r).length := by simp
    have hl2 : (s ++ 35 :: r).length = s.length + 1 + r.length := by simp; omega
    unfold lexR
    rw [if_neg (by omega), hl, List.append_assoc, lexL_blanks _ n lex0 rfl rfl, hl2, lexL_hash r s.length s _ (Nat.le_refl _)]
    have e : ({ lex0 with col := lex0.col + n } : LS) = shC n lex0 := rfl
    rw [e, lexL_shC n _ s _ hs]
  rw [rs, rr, rz]
  cases ha : lexL s.length s lex0 with
  | inl p => exact ⟨fun _ => rfl, fun h => absurd h (by simp [finR])⟩
  | inr ta =>
    obtain ⟨_, hcu⟩ := lexL_line s.length s lex0 ta (Nat.le_refl _) ha
    have hcu2 : (shC n ta).cur = none := by simp [shC, hcu]
    have hrm := lexL_rem r.length r { shC n ta with col := (shC n ta).col + 1, rem := true } lex0 hr rfl hcu2
    cases hb : lexL r.length r lex0 with
    | inl p =>
      obtain ⟨q, hq⟩ := hrm.1 p hb
      refine ⟨fun _ => ?_, fun _ h => absurd h (by simp [finR])⟩
      show (finR (lexL r.length r _)).2.1 = 2
      rw [hq]; rfl
    | inr tb =>
      obtain ⟨t', ht', hws⟩ := hrm.2 tb hb
      refine ⟨fun h => by rcases h with h | h <;> exact absurd rfl h, fun _ _ => ?_⟩
      show (finR (lexL r.length r _)).2.1 = 0 ∧ (finR (lexL r.length r _)).1 = _
      rw [ht']
      exact ⟨rfl, hws⟩

/-- A text up to the end of its first line. -/
def lineOf : By → By
  | [] => []
  | x :: l => if x = 10 then [] else x :: lineOf l
theorem lineOf_no : ∀ l : By, (10 : UInt8) ∉ lineOf l
  | [] => by simp [lineOf]
  | x :: l => by
    unfold lineOf
    by_cases h : x = 10
    · rw [if_pos h]; simp
    · rw [if_neg h]
      intro hm
      rcases List.mem_cons.1 hm with e | e
      · exact h e.symm
      · exact lineOf_no l e
theorem lineOf_all : ∀ l : By, (10 : UInt8) ∉ l → lineOf l = l
  | [], _ => rfl
  | x :: l, h => by
    have hx : x ≠ 10 := fun e => h (by rw [e]; exact List.mem_cons_self)
    rw [lineOf, if_neg hx, lineOf_all l (fun hm => h (List.mem_cons_of_mem _ hm))]
theorem lineOf_cut : ∀ (l : By) (k : Nat), k < l.length → (10 : UInt8) ∉ l.take k → (l.getD k 0).toNat = 10 → lineOf l = l.take k
  | [], k, hk, _, _ => absurd hk (Nat.not_lt_zero _)
  | x :: l, 0, _, _, hx => by
    have : x = 10 := UInt8.toNat_inj.1 (by have h2 : x.toNat = 10 := hx; rw [h2]; rfl)
    rw [lineOf, if_pos this]; rfl
  | x :: l, k + 1, hk, h, hx => by
    have hne : x ≠ 10 := fun e => h (by rw [List.take_succ_cons, e]; exact List.mem_cons_self)
    rw [lineOf, if_neg hne, List.take_succ_cons, lineOf_cut l k (by simpa using hk) (fun hm => h (by rw [List.take_succ_cons]; exact List.mem_cons_of_mem _ hm)) hx]
theorem take_no (l : By) (k : Nat) (hk : k < l.length) (h : (10 : UInt8) ∉ l.take k) (hx : (l.getD k 0).toNat ≠ 10) : (10 : UInt8) ∉ l.take (k + 1) := by
  rw [List.take_succ_eq_append_getElem hk]
  intro hm
  rcases List.mem_append.1 hm with hm | hm
  · exact h hm
  · have e : l.getD k 0 = l[k] := by simp [hk]
    rw [List.mem_singleton] at hm
    rw [e, ← hm] at hx
    exact hx rfl
theorem lineOf_le : ∀ l : By, (lineOf l).length ≤ l.length
  | [] => Nat.le_refl _
  | x :: l => by
    unfold lineOf
    split
    · exact Nat.zero_le _
    · have := lineOf_le l
      simp
      omega
end Go.Proofs.Ytknlhbbkjgkjpaa
