/- A drawn region in a round of a range over a function: walked in its text's order, where it only reckons, reads and stores. -/
import Derived.Test.YtpijnpapmdnceaaTxt
import Derived.OrdersIn
import Derived.AtR
namespace Go.Proofs.Ytpijnpapmdnceaa
open Go

/-- No call, nothing deferred, nothing sent. -/
def tame (o : Oper) : Bool :=
  match o.op with
  | .move _ | .assign _ | .pick _ _ _ | .load _ _ | .store _ _ _ | .binOp _ _ _ _ _ | .unOp _ _ _ | .fieldAddr _ _ _ | .indexAddr _ _ _ | .alloc _ | .box _ _ => true
  | _ => false

theorem run_val {P : Program} {s : Sem Value} {w w' : World} {n : Next} (h : (do pure (Next.value (← s)) : Sem Next).run P w = .ok n w') : ∃ x, n = .value x := by
  simp only [Sem.run_bind] at h
  generalize s.run P w = r at h
  cases r with
  | ok x w1 => simp only [Sem.run_pure, Result.andThen_ok, Result.ok.injEq] at h; exact ⟨x, h.1.symm⟩
  | halt x w1 => simp at h

theorem run_unit {P : Program} {s : Sem Unit} {w w' : World} {n : Next} (h : (do s; pure Next.skip : Sem Next).run P w = .ok n w') : n = .skip := by
  simp only [Sem.run_bind] at h
  generalize s.run P w = r at h
  cases r with
  | ok x w1 => simp only [Sem.run_pure, Result.andThen_ok, Result.ok.injEq] at h; exact h.1.symm
  | halt x w1 => simp at h

theorem tame_run {P : Program} {o : Oper} {ρ : Operand → Value} {w w' : World} {n : Next} (ht : tame o = true) (h : (execOp ρ o).run P w = .ok n w') : (∃ x, n = .value x) ∨ n = .skip := by
  unfold tame at ht
  unfold execOp at h
  cases ho : o.op <;> rw [ho] at ht h <;> first | (cases ht; done) | skip
  all_goals first
    | exact .inl (run_val h)
    | exact .inr (run_unit h)
    | (simp only [Sem.run_pure, Result.ok.injEq] at h; exact .inl ⟨_, h.1.symm⟩)
    | skip
  · simp only [Sem.run_bind] at h
    rename_i c a b
    generalize (asBool (ρ c)).run P w = r at h
    cases r with
    | ok x w1 => cases x <;> simp only [Result.andThen_ok, Sem.run_pure, Bool.false_eq_true, if_false, if_true, Result.ok.injEq] at h <;> exact .inl ⟨_, h.1.symm⟩
    | halt x w1 => simp at h

theorem tame_about {P : Program} {o : Oper} {ρ : Operand → Value} {w : World} (ht : tame o = true) : o.about P w ρ = none := by
  unfold tame at ht
  unfold Oper.about
  cases ho : o.op <;> rw [ho] at ht <;> first | (cases ht; done) | rfl

theorem tame_defer {o : Oper} (ht : tame o = true) : ∀ c, o.op ≠ .defer c := fun c e => by
  unfold tame at ht
  rw [e] at ht
  cases ht

section
variable {F : Fence} {m : Nat} {P : Program} {ops : Array Oper} {N : Act → World → Prop} {Q : Exit → Act → World → Prop}

theorem tame_wpIn {o : Oper} (ht : tame o = true) {a : Act} {w : World} {K K' : Act → World → Prop} (hK : ∀ a w, K a w → K' a w) (h : o.wp P a w K (OnlyN N)) : o.wpIn F m P a w K' Q := by
  refine ⟨(fun f hf => by rw [tame_about ht] at hf; cases hf), ?_⟩
  rw [Oper.semAt_eq _ _ _ (tame_defer ht)]
  unfold Oper.wp at h
  cases hr : (execOp a.eval o).run P w with
  | ok n w' =>
    rw [hr] at h
    rcases tame_run ht hr with ⟨x, rfl⟩ | rfl
    · exact hK _ _ h
    · exact hK _ _ h
  | halt x w' =>
    rw [hr] at h
    cases x <;> simp only [Oper.upon] at h <;> exact h.elim

theorem anyIn_of_any (ht : ops.all tame = true) (hN : ∀ a w, N a w → Q .normal a w) : ∀ (fuel : Nat) (listed : Array Bool) (a : Act) (w : World), wpAny P .any ops (OnlyN N) fuel listed a w → wpAnyIn F m P .any ops Q fuel listed a w
  | 0, _, _, _, h => ⟨h.1, hN _ _ h.2⟩
  | fuel + 1, listed, a, w, h => ⟨fun hr => hN _ _ (h.1 hr), fun i hi => by
      have h1 := h.2 i hi
      unfold wpOp at h1
      unfold wpOpIn
      obtain ⟨_, o, ho, _⟩ := mem_ready.1 hi
      simp only [ho] at h1 ⊢
      have hto : tame o = true := by
        rw [Array.all_eq_true] at ht
        obtain ⟨hlt, he⟩ := Array.getElem?_eq_some_iff.1 ho
        have := ht i hlt
        rwa [he] at this
      split at h1
      · rename_i hw
        rw [if_pos hw]
        rcases h1 with h1 | ⟨_, h1⟩
        · exact tame_wpIn hto (fun a' w' hk => anyIn_of_any ht hN fuel _ a' w' hk) h1
        · exact absurd h1 OnlyN.not_out
      · rename_i hw
        rw [if_neg hw]
        exact ⟨(fun f hf => by rw [tame_about hto] at hf; cases hf), anyIn_of_any ht hN fuel _ _ _ h1⟩⟩

/-- **A drawn region in its text's order, in a round.** -/
theorem wpIn_region_text {id : Nat} {a : Act} {w : World} {l : List Oper} (cs : List Nat) (S : World → Prop) (hm : P.follows .mixedOrders = true) (ht : l.toArray.all tame = true) (hB : textB l.toArray cs = true)
    (hS : S w.drew) (h : wpT P l.toArray S (Q .normal) cs l a w.drew) : (Code.region id l.toArray true).wpIn F m P Q a w := by
  simp only [textB, Bool.and_eq_true, beq_iff_eq] at hB
  refine wpIn_region_any hm (anyIn_of_any (N := Q .normal) ht (fun _ _ h => h) _ _ _ _ (wpAny_of_T (S := S) (cs := cs) _ _ _ _ hS ?_))
  have := wpAnyT_text (P := P) (S := S) (N := Q .normal) (cs := cs) hB.1.1 l 0 (Array.replicate l.toArray.size false) a w.drew (by simp) hS
    (fun j oj _ hl => by exfalso; simp [Array.getD] at hl) (by simpa using hB.2) hB.1.2 (by simpa using h)
  simpa using this
end
end Go.Proofs.Ytpijnpapmdnceaa
