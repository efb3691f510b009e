/- The document's Words: plain. -/
import Derived.Test.YtknlhbbkjgkjpaaLexM
import Derived.Test.YtknlhbbkjgkjpaaLexL
import Derived.Test.YtknlhbbkjgkjpaaLexK
namespace Go.Proofs.Ytknlhbbkjgkjpaa
open Go Go.RowKit
open Go.Lib (decodeN)

theorem cons_of {l : By} (hl : l ≠ []) : ∃ x l', l = x :: l' := by
  cases l with
  | nil => exact absurd rfl hl
  | cons x l' => exact ⟨x, l', rfl⟩
theorem dec_gu (l : By) (hl : l ≠ []) (h : gu l 0 < 128) : decodeL' l = (gu l 0, 1) := by
  obtain ⟨x, l', rfl⟩ := cons_of hl
  exact dec_ascii x l' h
theorem dec_small (l : By) (hl : l ≠ []) (h : (decodeL' l).1 < 128) : gu l 0 = (decodeL' l).1 ∧ (decodeL' l).2 = 1 := by
  obtain ⟨h1, h2⟩ := dec_le l hl
  rcases dec_bytes l hl with ⟨_, e⟩ | ⟨h3, _⟩
  · have hg : gu l 0 = gu (l.take (decodeL' l).2) 0 := (gu_take l _ 0 (by omega)).symm
    rw [e] at hg
    have hg2 : gu l 0 = (decodeL' l).1 := by
      rw [hg]
      show (UInt8.ofNat (decodeL' l).1).toNat = _
      rw [UInt8.toNat_ofNat', Nat.mod_eq_of_lt (by omega)]
    refine ⟨hg2, ?_⟩
    rw [dec_gu l hl (by omega)]
  · omega
theorem fffd (l : By) (hl : l ≠ []) (h : (decodeL' l).1 = 65533) (h1 : (decodeL' l).2 ≠ 1) : l.take 3 = pre3 := by
  obtain ⟨d1, d2⟩ := dec_le l hl
  have hs := Go.Lib.decodeN_shape l.length (gu l 0) (gu l 1) (gu l 2) (gu l 3)
  have g0 := gu_lt l 0
  have g1 := gu_lt l 1
  have g2 := gu_lt l 2
  have g3 := gu_lt l 3
  rw [← dn] at hs
  rcases hs with ⟨a, e⟩ | ⟨a, _, b, c, e⟩ | ⟨a, _, b, c, x, _, e⟩ | ⟨a, _, b, c, d, x, _, e⟩ | e
  · rw [e] at h; dsimp only at h; omega
  · rw [e] at h; dsimp only at h; omega
  · rw [e] at h d2
    dsimp only at h d2
    have k0 : gu l 0 = 239 := by omega
    have k1 : gu l 1 = 191 := by omega
    have k2 : gu l 2 = 189 := by omega
    obtain ⟨x0, l0, rfl⟩ := cons_of hl
    have hl0 : l0 ≠ [] := fun e => by rw [e] at d2; simp at d2
    obtain ⟨x1, l1, rfl⟩ := cons_of hl0
    have hl1 : l1 ≠ [] := fun e => by rw [e] at d2; simp at d2
    obtain ⟨x2, l2, rfl⟩ := cons_of hl1
    have e0 : x0 = 239 := UInt8.toNat_inj.1 k0
    have e1 : x1 = 191 := UInt8.toNat_inj.1 k1
    have e2 : x2 = 189 := UInt8.toNat_inj.1 k2
    rw [e0, e1, e2]
    rfl
  · rw [e] at h; dsimp only at h; omega
  · rw [e] at h1; exact absurd rfl h1

/-- What Bad stops at. -/
def stopL (l : By) : Bool := decide (wideL l = 0) || (decide (gu l 0 ≠ 10) && decide (gu l 0 < 32)) || decide (gu l 0 = 127)
theorem stop_iff (l : By) (hl : l ≠ []) : stopL l = true ↔ (decodeL' l).1 ≠ 10 ∧ badL (decodeL' l).1 l = true := by
  by_cases h : gu l 0 < 128
  · have e := dec_gu l hl h
    have hw := wide_ascii hl h
    unfold stopL badL
    rw [e, hw]
    dsimp only
    have n1 : ¬ gu l 0 = 65533 := by omega
    simp only [n1, decide_false, Bool.false_and, Bool.or_false, Bool.or_eq_true, Bool.and_eq_true, decide_eq_true_eq]
    omega
  · have hc : 128 ≤ (decodeL' l).1 := by
      rcases Nat.lt_or_ge (decodeL' l).1 128 with h1 | h1
      · have := (dec_small l hl h1).1
        omega
      · exact h1
    have h1 : ¬ gu l 0 < 32 := by omega
    have h2 : ¬ gu l 0 = 127 := by omega
    have h3 : ¬ (decodeL' l).1 < 32 := by omega
    have h4 : ¬ (decodeL' l).1 = 127 := by omega
    have h5 : (decodeL' l).1 ≠ 10 := by omega
    obtain ⟨d1, d2⟩ := dec_le l hl
    unfold stopL wideL
    rw [if_neg hl]
    constructor
    · intro hs
      refine ⟨h5, ?_⟩
      by_cases hb : badL (decodeL' l).1 l = true
      · exact hb
      · have := bad_pre l hl (by simpa using hb)
        rw [if_neg this] at hs
        simp [h1, h2] at hs
        omega
    · rintro ⟨_, hb⟩
      unfold badL at hb
      simp [h3, h4] at hb
      have hd : (decodeL' l).2 = 1 := by
        by_cases hd : (decodeL' l).2 = 1
        · exact hd
        · exact absurd (fffd l hl hb.1 hd) hb.2
      rw [if_pos ⟨hb.1, hd⟩]
      simp
theorem wide_ok (l : By) (hl : l ≠ []) (h : stopL l = false) : wideL l = (decodeL' l).2 := by
  have h1 : wideL l ≠ 0 := fun e => by unfold stopL at h; rw [e] at h; simp at h
  unfold wideL at h1 ⊢
  rw [if_neg hl] at h1 ⊢
  by_cases hc : (decodeL' l).1 = 65533 ∧ (decodeL' l).2 = 1
  · rw [if_pos hc] at h1
    exact absurd rfl h1
  · rw [if_neg hc]
/-- One step of Bad. -/
theorem bad_step {R : Sum (Nat × Nat) LS} (l : By) (hl : l ≠ []) (t : LS) (h : lexL l.length l t = R) :
    (stopL l = true ∧ R = .inl (t.line, t.col + 1)) ∨
    (stopL l = false ∧ ∃ d, wideL l = d ∧ 1 ≤ d ∧ d ≤ l.length ∧ ∃ t', lexL (l.drop d).length (l.drop d) t' = R ∧
      ((gu l 0 = 10 ∧ t'.line = t.line + 1 ∧ t'.col = 0) ∨ (gu l 0 ≠ 10 ∧ t'.line = t.line ∧ t'.col = t.col + 1))) := by
  obtain ⟨d1, d2⟩ := dec_le l hl
  obtain ⟨f, hf⟩ : ∃ f, l.length = f + 1 := ⟨l.length - 1, by omega⟩
  have hd : (l.drop (decodeL' l).2).length ≤ f := by rw [List.length_drop]; omega
  have si := stop_iff l hl
  rw [hf, lexL_cons f l hl] at h
  have g10 : (decodeL' l).1 = 10 ↔ gu l 0 = 10 := by
    constructor
    · intro e; have := (dec_small l hl (by omega)).1; omega
    · intro e; rw [dec_gu l hl (by omega)]; exact e
  by_cases c10 : (decodeL' l).1 = 10
  · have hs : stopL l = false := by
      cases hs : stopL l with
      | false => rfl
      | true => exact absurd c10 (si.1 hs).1
    rw [if_pos c10] at h
    refine .inr ⟨hs, _, wide_ok l hl hs, d1, d2, _, (lexL_fuel _ f _ _ (Nat.le_refl _) hd).trans h, .inl ⟨g10.1 c10, ?_, rfl⟩⟩
    show (_ : Nat) + 1 = _
    rfl
  · rw [if_neg c10] at h
    by_cases hb : badL (decodeL' l).1 l = true
    · rw [if_pos hb] at h
      exact .inl ⟨si.2 ⟨c10, hb⟩, h.symm⟩
    · have hs : stopL l = false := by
        cases hs : stopL l with
        | false => rfl
        | true => exact absurd (si.1 hs).2 hb
      rw [if_neg hb] at h
      obtain ⟨n1, n2, _⟩ := nextS_line (decodeL' l).1 (l.take (decodeL' l).2) { t with col := t.col + 1 }
      exact .inr ⟨hs, _, wide_ok l hl hs, d1, d2, _, (lexL_fuel _ f _ _ (Nat.le_refl _) hd).trans h, .inr ⟨fun e => c10 (g10.2 e), n1, n2⟩⟩

/-! A line. -/
def tL (ws : List W3) (line : Nat) : LS := ⟨ws, line, 0, none, false⟩
theorem tL_sh (ws : List W3) (line : Nat) : tL ws line = shT 0 ws (tL [] line) := by
  unfold tL shT
  simp
theorem shW0 (l : List W3) : l.map (shW 0) = l := by
  have : shW 0 = id := by funext x; rfl
  rw [this, List.map_id]
theorem line_end (x : By) (ws : List W3) (line : Nat) (T : LS) (h : lexL x.length x (tL ws line) = .inr T) :
    ∃ T1, lexL x.length x (tL [] line) = .inr T1 ∧ T.ws = ws ++ T1.ws := by
  rw [tL_sh, lexL_sh] at h
  cases e : lexL x.length x (tL [] line) with
  | inl p => rw [e] at h; simp [shS] at h
  | inr T1 =>
    rw [e] at h
    simp only [shS, Sum.inr.injEq] at h
    refine ⟨T1, rfl, ?_⟩
    rw [← h]
    show ws ++ T1.ws.map (shW 0) = _
    rw [shW0]
theorem line_step (x b : By) (hx : (10 : UInt8) ∉ x) (ws : List W3) (line : Nat) (T : LS) (h : lexL (x ++ 10 :: b).length (x ++ 10 :: b) (tL ws line) = .inr T) :
    ∃ T1, lexL x.length x (tL [] line) = .inr T1 ∧ lexL b.length b (tL (ws ++ T1.ws) (line + 1)) = .inr T := by
  have e1 : (x ++ 10 :: b).length = x.length + 1 + b.length := by simp only [List.length_append, List.length_cons]; omega
  rw [e1, lexL_app b x.length x _ (Nat.le_refl _)] at h
  cases e : lexL x.length x (tL ws line) with
  | inl p => rw [e] at h; simp [contT] at h
  | inr T0 =>
    rw [e] at h
    obtain ⟨T1, h1, h2⟩ := line_end x ws line T0 e
    refine ⟨T1, h1, ?_⟩
    obtain ⟨l1, l2⟩ := lexL_line x.length x _ _ (Nat.le_refl _) e
    rw [List.count_eq_zero.2 hx] at l1
    simp only [contT] at h
    rw [← h, ← h2]
    obtain ⟨a, b', c, d, r⟩ := T0
    simp only at l1 l2
    subst l1 l2
    rfl
/-! Without its remark. -/
def Cut (l x : By) : Prop := x = l ∨ ∃ b, l = x ++ 35 :: b
theorem Cut.take {l x : By} (h : Cut l x) (i : Nat) (hi : i < x.length) (e : (x.getD i 0).toNat = 35) : Cut l (x.take i) := by
  have e1 : x = x.take i ++ 35 :: x.drop (i + 1) := by
    have : x[i] = 35 := by
      rw [List.getD_eq_getElem?_getD, List.getElem?_eq_getElem hi] at e
      exact UInt8.toNat_inj.1 e
    rw [← this, List.getElem_cons_drop, List.take_append_drop]
  rcases h with h | ⟨b, h⟩
  · exact .inr ⟨x.drop (i + 1), by rw [← h]; exact e1⟩
  · refine .inr ⟨x.drop (i + 1) ++ 35 :: b, ?_⟩
    rw [h]
    conv => lhs; rw [e1]
    simp
theorem Cut.sub {l x : By} (h : Cut l x) (y : UInt8) (hy : y ∈ x) : y ∈ l := by
  rcases h with h | ⟨b, h⟩
  · rwa [← h]
  · rw [h]; exact List.mem_append_left _ hy
theorem Cut.le {l x : By} (h : Cut l x) : x.length ≤ l.length := by
  rcases h with h | ⟨b, h⟩
  · rw [h]; exact Nat.le_refl _
  · rw [h]; simp
theorem Cut.lex {l x : By} (h : Cut l x) (h10 : (10 : UInt8) ∉ l) (t T : LS) (e : lexL l.length l t = .inr T) : ∃ T', lexL x.length x t = .inr T' ∧ T'.ws = T.ws := by
  rcases h with h | ⟨b, h⟩
  · exact ⟨T, by rw [h]; exact e, rfl⟩
  · rw [h] at e h10
    have e1 : (x ++ 35 :: b).length = x.length + 1 + b.length := by simp only [List.length_append, List.length_cons]; omega
    rw [e1, lexL_hash b x.length x _ (Nat.le_refl _)] at e
    cases e2 : lexL x.length x t with
    | inl p => rw [e2] at e; simp [contR] at e
    | inr T0 =>
      refine ⟨T0, rfl, ?_⟩
      rw [e2] at e
      simp only [contR] at e
      have hb : (10 : UInt8) ∉ b := fun hm => h10 (List.mem_append_right _ (List.mem_cons_of_mem _ hm))
      obtain ⟨_, hc⟩ := lexL_line x.length x _ _ (Nat.le_refl _) e2
      obtain ⟨r1, r2⟩ := lexL_rem b.length b { T0 with col := T0.col + 1, rem := true } { T0 with col := T0.col + 1, rem := true } hb rfl hc
      obtain ⟨t', h1, h2⟩ := r2 T e
      rw [e] at h1
      cases h1
      rw [h2]
theorem no_c (c : UInt8) (hc : c.toNat < 128) (l : By) (hl : l ≠ []) (h : c ∉ l) : (decodeL' l).1 ≠ c.toNat := by
  intro e
  have h1 := (dec_small l hl (by omega)).1
  obtain ⟨x, l', rfl⟩ := cons_of hl
  have h2 : x.toNat = c.toNat := h1.trans e
  exact h (by rw [← UInt8.toNat_inj.1 h2]; simp)
/-- One step of a line that has no remark. -/
theorem one_step (l : By) (hl : l ≠ []) (h10 : (10 : UInt8) ∉ l) (h35 : (35 : UInt8) ∉ l) (t T : LS) (hr : t.rem = false) (h : lexL l.length l t = .inr T) :
    ∃ d, wideL l = d ∧ 1 ≤ d ∧ d ≤ l.length ∧
      ((gu l 0 = 32 ∧ d = 1 ∧ lexL (l.drop d).length (l.drop d) (endS { t with col := t.col + 1 }) = .inr T) ∨
       (gu l 0 ≠ 32 ∧ lexL (l.drop d).length (l.drop d) { t with col := t.col + 1, cur := match t.cur with | some (y, a) => some (y ++ l.take d, a) | none => some (l.take d, t.col + 1) } = .inr T)) := by
  obtain ⟨d1, d2⟩ := dec_le l hl
  obtain ⟨f, hf⟩ : ∃ f, l.length = f + 1 := ⟨l.length - 1, by omega⟩
  have hd : (l.drop (decodeL' l).2).length ≤ f := by rw [List.length_drop]; omega
  have c10 : (decodeL' l).1 ≠ 10 := no_c 10 (by decide) l hl h10
  have c35 : (decodeL' l).1 ≠ 35 := no_c 35 (by decide) l hl h35
  rw [hf, lexL_cons f l hl, if_neg c10] at h
  by_cases hb : badL (decodeL' l).1 l = true
  · rw [if_pos hb] at h; cases h
  · rw [if_neg hb] at h
    have hs : stopL l = false := by
      cases hs : stopL l with
      | false => rfl
      | true => exact absurd ((stop_iff l hl).1 hs).2 hb
    refine ⟨_, wide_ok l hl hs, d1, d2, ?_⟩
    obtain ⟨ws, line, col, cur, rem⟩ := t
    simp only at hr
    subst hr
    by_cases c32 : (decodeL' l).1 = 32
    · obtain ⟨g1, g2⟩ := dec_small l hl (by omega)
      refine .inl ⟨by omega, g2, (lexL_fuel _ f _ _ (Nat.le_refl _) hd).trans ?_⟩
      rw [← h]
      unfold nextS
      simp [c32]
    · refine .inr ⟨fun e => c32 (by rw [dec_gu l hl (by omega)]; exact e), (lexL_fuel _ f _ _ (Nat.le_refl _) hd).trans ?_⟩
      rw [← h]
      unfold nextS
      cases cur with
      | none => simp [c32, c35]
      | some p => simp [c32, c35]
end Go.Proofs.Ytknlhbbkjgkjpaa
