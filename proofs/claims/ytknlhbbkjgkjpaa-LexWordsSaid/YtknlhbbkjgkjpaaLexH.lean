/- Bounds on what Words answers. -/
import Derived.Test.YtknlhbbkjgkjpaaLexG
namespace Go.Proofs.Ytknlhbbkjgkjpaa
open Go Go.RowKit

structure Bd (M : Nat) (t : LS) : Prop where
  ws : ∀ x ∈ t.ws, x.2.1 ≤ M ∧ x.2.2 ≤ M
  cur : ∀ y c, t.cur = some (y, c) → c ≤ M
theorem endS_bd {M : Nat} {t : LS} (h : Bd M t) (hl : t.line ≤ M) : Bd M (endS t) ∧ (endS t).ws.length ≤ t.ws.length + 1 ∧ (endS t).col = t.col ∧ (endS t).line = t.line := by
  obtain ⟨ws, line, col, cur, rem⟩ := t
  cases cur with
  | none => exact ⟨h, by simp [endS], rfl, rfl⟩
  | some xc =>
    obtain ⟨x, c⟩ := xc
    refine ⟨⟨fun y hy => ?_, fun y c e => by cases e⟩, by simp [endS], rfl, rfl⟩
    simp only [endS, List.mem_append, List.mem_singleton] at hy
    rcases hy with hy | rfl
    · exact h.ws y hy
    · exact ⟨hl, h.cur x c rfl⟩
theorem nextS_bd {M : Nat} {t : LS} (c : Nat) (x : By) (h : Bd M t) (hl : t.line ≤ M) (hc : t.col ≤ M) : Bd M (nextS c x t) ∧ (nextS c x t).ws.length ≤ t.ws.length + 1 ∧ (nextS c x t).col = t.col ∧ (nextS c x t).line = t.line := by
  unfold nextS
  split
  · have hb : Bd M { t with rem := t.rem || decide (c = 35) } := ⟨h.ws, h.cur⟩
    exact endS_bd hb hl
  · split
    · rename_i y a e
      refine ⟨⟨h.ws, fun y' c' e' => ?_⟩, by simp, rfl, rfl⟩
      simp only [Option.some.injEq, Prod.mk.injEq] at e'
      rw [← e'.2]
      exact h.cur y a e
    · refine ⟨⟨h.ws, fun y' c' e' => ?_⟩, by simp, rfl, rfl⟩
      simp only [Option.some.injEq, Prod.mk.injEq] at e'
      rw [← e'.2]
      exact hc
theorem lexL_bd (M : Nat) : ∀ (f : Nat) (l : By) (t : LS), Bd M t → t.line + f ≤ M → t.col + f ≤ M →
    (∀ p, lexL f l t = .inl p → p.1 ≤ M ∧ p.2 ≤ M) ∧ (∀ t', lexL f l t = .inr t' → Bd M t' ∧ t'.ws.length ≤ t.ws.length + f + 1)
  | 0, l, t, h, hl, _ => by
    refine ⟨fun p e => by simp [lexL] at e, fun t' e => ?_⟩
    simp only [lexL, Sum.inr.injEq] at e
    subst e
    have := endS_bd h (by omega)
    exact ⟨this.1, by omega⟩
  | f + 1, l, t, h, hl, hc => by
    by_cases hn : l = []
    · subst hn
      refine ⟨(fun p e => by rw [lexL_nil'] at e; cases e), fun t' e => ?_⟩
      rw [lexL_nil', Sum.inr.injEq] at e
      subst e
      have := endS_bd h (by omega)
      exact ⟨this.1, by omega⟩
    · rw [lexL_cons f l hn]
      have hb : Bd M { t with col := t.col + 1 } := ⟨h.ws, h.cur⟩
      obtain ⟨e1, e2, e3, e4⟩ := endS_bd hb (show t.line ≤ M by omega)
      by_cases c10 : (decodeL' l).1 = 10
      · rw [if_pos c10]
        have hb2 : Bd M { endS { t with col := t.col + 1 } with line := t.line + 1, col := 0, rem := false } := ⟨e1.ws, e1.cur⟩
        have ih := lexL_bd M f (l.drop (decodeL' l).2) _ hb2 (show t.line + 1 + f ≤ M by omega) (show 0 + f ≤ M by omega)
        exact ⟨ih.1, fun t' e => ⟨(ih.2 t' e).1, by have h2 := (ih.2 t' e).2; have h3 : (endS { t with col := t.col + 1 }).ws.length ≤ t.ws.length + 1 := e2; dsimp only at h2; omega⟩⟩
      · rw [if_neg c10]
        by_cases hbad : badL (decodeL' l).1 l = true
        · rw [if_pos hbad]
          refine ⟨fun p e => ?_, fun t' e => by cases e⟩
          cases e
          exact ⟨by dsimp only; omega, by dsimp only; omega⟩
        · rw [if_neg hbad]
          obtain ⟨n1, n2, n3, n4⟩ := nextS_bd (decodeL' l).1 (l.take (decodeL' l).2) hb (show t.line ≤ M by omega) (show t.col + 1 ≤ M by omega)
          have ih := lexL_bd M f (l.drop (decodeL' l).2) _ n1 (by rw [n4]; dsimp only; omega) (by rw [n3]; dsimp only; omega)
          exact ⟨ih.1, fun t' e => ⟨(ih.2 t' e).1, by have h2 := (ih.2 t' e).2; dsimp only at n2; omega⟩⟩
theorem lex_bd (l : By) : (∀ x ∈ (lexR l).1, x.2.1 ≤ 5000 ∧ x.2.2 ≤ 5000) ∧ (lexR l).1.length ≤ 5000 ∧ (lexR l).2.1 ≤ 13 ∧ (lexR l).2.2.1 ≤ 5000 ∧ (lexR l).2.2.2 ≤ 5000 := by
  unfold lexR
  split
  · refine ⟨fun x hx => by simp at hx, by simp, by simp, by simp, by simp⟩
  · rename_i hl
    have hb : Bd 5000 lex0 := ⟨fun x hx => by simp [lex0] at hx, fun y c e => by simp [lex0] at e⟩
    have h := lexL_bd 5000 l.length l lex0 hb (show 1 + l.length ≤ 5000 by omega) (show 0 + l.length ≤ 5000 by omega)
    cases hr : lexL l.length l lex0 with
    | inl p =>
      have := h.1 p hr
      exact ⟨fun x hx => by simp [finR] at hx, by simp [finR], by simp [finR], this.1, this.2⟩
    | inr t =>
      have := h.2 t hr
      refine ⟨this.1.ws, ?_, by simp [finR], by simp [finR], by simp [finR]⟩
      have h2 : t.ws.length ≤ 0 + l.length + 1 := this.2
      show t.ws.length ≤ 5000
      omega
theorem gw_mem (l : List W3) (i : Nat) (h : i < l.length) : l.getD i ([], 0, 0) ∈ l := by

  rw [List.getD_eq_getElem?_getD, List.getElem?_eq_getElem h]
  exact List.getElem_mem h
end Go.Proofs.Ytknlhbbkjgkjpaa
