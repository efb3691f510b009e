/- A drawn region in a round of a range over a function, calls among its operations. -/
import Derived.Test.YtpijnpapmdnceaaRnd
namespace Go.Proofs.Ytpijnpapmdnceaa
open Go

/-- Nothing is deferred. -/
def mild (o : Oper) : Bool :=
  match o.op with
  | .defer _ => false
  | _ => true

theorem mild_defer {o : Oper} (ht : mild o = true) : ∀ c, o.op ≠ .defer c := fun c e => by
  unfold mild at ht
  rw [e] at ht
  cases ht

section
variable {m : Nat} {r : Option Nat} {P : Program} {ops : Array Oper} {N : Act → World → Prop} {Q : Exit → Act → World → Prop}

theorem mild_wpIn {o : Oper} (ht : mild o = true) {a : Act} {w : World} {K K' : Act → World → Prop} (hK : ∀ a w, K a w → K' a w) (h : o.wp P a w K (OnlyN N)) : o.wpIn ({ Fence.wide with round := r }) m P a w K' Q := by
  refine ⟨fun _ _ => trivial, ?_⟩
  rw [Oper.semAt_eq _ _ _ (mild_defer ht)]
  unfold Oper.wp at h
  cases hr : (execOp a.eval o).run P w with
  | ok n w' =>
    rw [hr] at h
    cases n with
    | value v => exact hK _ _ h
    | skip => exact hK _ _ h
    | defer d => exact hK _ _ h
    | enter f args =>
      rw [Oper.upon_enter] at h
      refine ⟨(fun he => by cases he), ?_⟩
      have h2 := (callsIn_wide (n := m - 1)).2 h
      refine CallsIn.mono (F := { Fence.wide with round := r }) h2 ?_
      rintro (v | ch | _) w2 hq
      · exact hK _ _ hq
      · exact hq.elim
      · exact (OnlyN.not_out hq).elim
    | row row args =>
      rw [Oper.upon_row] at h
      refine ⟨(fun he => by cases he), fun c cs _ => ?_⟩
      obtain ⟨v, w2, hq, hs⟩ := h c cs
      exact ⟨v, w2, hK _ _ hq, stepsIn_wide.2 hs⟩
    | _ => exact h.elim
  | halt x w' =>
    rw [hr] at h
    cases x <;> simp only [Oper.upon] at h <;> exact h.elim

theorem anyIn_of_any2 (ht : ops.all mild = true) (hN : ∀ a w, N a w → Q .normal a w) : ∀ (fuel : Nat) (listed : Array Bool) (a : Act) (w : World), wpAny P .any ops (OnlyN N) fuel listed a w → wpAnyIn ({ Fence.wide with round := r }) m P .any ops Q fuel listed a w
  | 0, _, _, _, h => ⟨h.1, hN _ _ h.2⟩
  | fuel + 1, listed, a, w, h => ⟨fun hr => hN _ _ (h.1 hr), fun i hi => by
      have h1 := h.2 i hi
      unfold wpOp at h1
      unfold wpOpIn
      obtain ⟨_, o, ho, _⟩ := mem_ready.1 hi
      simp only [ho] at h1 ⊢
      have hto : mild o = true := by
        rw [Array.all_eq_true] at ht
        obtain ⟨hlt, he⟩ := Array.getElem?_eq_some_iff.1 ho
        have := ht i hlt
        rwa [he] at this
      split at h1
      · rename_i hw
        rw [if_pos hw]
        rcases h1 with h1 | ⟨_, h1⟩
        · exact mild_wpIn hto (fun a' w' hk => anyIn_of_any2 ht hN fuel _ a' w' hk) h1
        · exact absurd h1 OnlyN.not_out
      · rename_i hw
        rw [if_neg hw]
        exact ⟨(fun _ _ => trivial), anyIn_of_any2 ht hN fuel _ _ _ h1⟩⟩

/-- An operation by a law of the plain walk. -/
theorem wpListIn_mild {o : Oper} {rest : List Oper} {a : Act} {w : World} (hg : o.guard = none) (ht : mild o = true)
    (h : ∀ K : Act → World → Prop, (∀ a w, wpListIn { Fence.wide with round := r } m P ops Q rest a w → K a w) → o.wp P a w K (OnlyN fun _ _ => True)) : wpListIn { Fence.wide with round := r } m P ops Q (o :: rest) a w :=
  wpListIn_plain hg fun K hK => mild_wpIn ht (fun _ _ h => h) (h K hK)

/-- **A drawn region in its text's order, in a round, calls among it.** -/
theorem wpIn_region_text2 {id : Nat} {a : Act} {w : World} {l : List Oper} (cs : List Nat) (S : World → Prop) (hm : P.follows .mixedOrders = true) (ht : l.toArray.all mild = true) (hB : textB l.toArray cs = true)
    (hS : S w.drew) (h : wpT P l.toArray S (Q .normal) cs l a w.drew) : (Code.region id l.toArray true).wpIn ({ Fence.wide with round := r }) m P Q a w := by
  simp only [textB, Bool.and_eq_true, beq_iff_eq] at hB
  refine wpIn_region_any hm (anyIn_of_any2 (N := Q .normal) ht (fun _ _ h => h) _ _ _ _ (wpAny_of_T (S := S) (cs := cs) _ _ _ _ hS ?_))
  have := wpAnyT_text (P := P) (S := S) (N := Q .normal) (cs := cs) hB.1.1 l 0 (Array.replicate l.toArray.size false) a w.drew (by simp) hS
    (fun j oj _ hl => by exfalso; simp [Array.getD] at hl) (by simpa using hB.2) hB.1.2 (by simpa using h)
  simpa using this
end
end Go.Proofs.Ytpijnpapmdnceaa
