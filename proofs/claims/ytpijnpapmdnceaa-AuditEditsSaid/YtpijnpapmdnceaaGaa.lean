/- A drawn region, walked in the order of its text: which operations may change places with which is checked by reckoning. What a call may turn: the blocks of F, and new ones. A row of the call's own, and what is appended to it. What a walk is told of a list that came in: its elements' cells, each a number that fits its kind. A drawn region in a round of a range over a function: walked in its text's order, where it only reckons, reads and stores. A drawn region in a round of a range over a function, calls among its operations. A drawn region in stages: what holds grows as calls answer. -/
import Derived.WalkKit
import Derived.OrdersHeld
import Derived.Orders
import Derived.ProofKit
import Derived.OpenShut
import Derived.ShutString
import Derived.ChangeOld
import Derived.Below
import Derived.Deep.Slices
import Derived.Deep.Fields
import Derived.ChangeSame
import Derived.Lib.SmallJoins
import Derived.OrdersIn
import Derived.AtR

namespace Go.Proofs.Ytpijnpapmdnceaa
open Go

section
variable {P : Program} {ops : Array Oper} {S : World → Prop} {N : Act → World → Prop} {cs : List Nat}

/-- A post that lets nothing by but the normal end. -/
def OnlyN (N : Act → World → Prop) : Exit → Act → World → Prop
  | .normal, a, w => N a w
  | _, _, _ => False

def YieldsOne (P : Program) (ops : Array Oper) (w : World) (o : Oper) (v : Value) (a : Act) : Prop :=
  (Region.wanted o (yielded ops a.tmps) = true ∧ (execOp a.eval o).run P w = .ok (.value v) w) ∨
  (Region.wanted o (yielded ops a.tmps) = false ∧ v = undef)

/-- One operation, by its class: 0: what it yields hangs on no world that meets S · 1: it only reads · else: whatever it does. -/
def stepC (P : Program) (ops : Array Oper) (S : World → Prop) (N : Act → World → Prop) (c : Nat) (o : Oper) (K : Act → World → Prop) (a : Act) (w : World) : Prop :=
  if c = 0 then ∃ v, YieldsIf P ops S o v a ∧ K (a.put o.dst v) w
  else if c = 1 then ∃ v, YieldsOne P ops w o v a ∧ K (a.put o.dst v) w
  else if Region.wanted o (yielded ops a.tmps) then o.wp P a w (fun a' w' => S w' ∧ K a' w') (OnlyN N) else K (a.put o.dst undef) w

/-- The last one, for which all others wait (class 3): S need not hold behind it. -/
def lastC (P : Program) (ops : Array Oper) (N : Act → World → Prop) (o : Oper) (D : Act → World → Prop) (a : Act) (w : World) : Prop :=
  if Region.wanted o (yielded ops a.tmps) then o.wp P a w D (OnlyN N) else D (a.put o.dst undef) w

theorem lastC_mono {o : Oper} {D D' : Act → World → Prop} {a : Act} {w : World} (h : ∀ a w, D a w → D' a w) (hh : lastC P ops N o D a w) : lastC P ops N o D' a w := by
  unfold lastC at *
  split
  · rename_i hw; rw [if_pos hw] at hh; exact Oper.wp_mono h hh
  · rename_i hw; rw [if_neg hw] at hh; exact h _ _ hh

def wpT (P : Program) (ops : Array Oper) (S : World → Prop) (N : Act → World → Prop) : List Nat → List Oper → Act → World → Prop
  | _, [], a, w => N a w
  | c :: cs, o :: l, a, w => if c = 3 then (l = [] ∧ lastC P ops N o N a w) else stepC P ops S N c o (wpT P ops S N cs l) a w
  | [], _ :: _, _, _ => False

def stepAt (P : Program) (ops : Array Oper) (S : World → Prop) (N : Act → World → Prop) (cs : List Nat) (i : Nat) (D K : Act → World → Prop) (a : Act) (w : World) : Prop :=
  match ops[i]? with
  | none => K a w
  | some o => if cs.getD i 2 = 3 then lastC P ops N o D a w else stepC P ops S N (cs.getD i 2) o K a w

/-- Whatever order is picked. -/
def wpAnyT (P : Program) (ops : Array Oper) (S : World → Prop) (N : Act → World → Prop) (cs : List Nat) : Nat → Array Bool → Act → World → Prop
  | 0, listed, a, w => Region.ready .any ops listed = [] ∧ N a w
  | fuel + 1, listed, a, w =>
    (Region.ready .any ops listed = [] → N a w) ∧
    ∀ i ∈ Region.ready .any ops listed, stepAt P ops S N cs i (wpAny P .any ops (OnlyN N) fuel (listed.setIfInBounds i true)) (wpAnyT P ops S N cs fuel (listed.setIfInBounds i true)) a w

theorem OnlyN.not_out : ¬ LetsOut (OnlyN N) := fun ⟨_, _, h⟩ => h

theorem Oper.wp_weak {o : Oper} {a : Act} {w : World} {K K' : Act → World → Prop} (h : ∀ a w, K a w → K' a w)
    (hh : o.wp P a w K (OnlyN N)) : o.wp P a w K' (OnlyN N) := Oper.wp_mono h hh

theorem stepC_mono {c : Nat} {o : Oper} {K K' : Act → World → Prop} {a : Act} {w : World} (h : ∀ a w, S w → K a w → K' a w) (hS : S w)
    (hh : stepC P ops S N c o K a w) : stepC P ops S N c o K' a w := by
  unfold stepC at *
  split
  · rename_i h0; rw [if_pos h0] at hh; obtain ⟨v, hy, hk⟩ := hh; exact ⟨v, hy, h _ _ hS hk⟩
  · rename_i h0; rw [if_neg h0] at hh
    split
    · rename_i h1; rw [if_pos h1] at hh; obtain ⟨v, hy, hk⟩ := hh; exact ⟨v, hy, h _ _ hS hk⟩
    · rename_i h1; rw [if_neg h1] at hh
      split
      · rename_i h2; rw [if_pos h2] at hh; exact Oper.wp_mono (fun a w hk => ⟨hk.1, h _ _ hk.1 hk.2⟩) hh
      · rename_i h2; rw [if_neg h2] at hh; exact h _ _ hS hh

/-- What follows is reached. -/
theorem Oper.wp_reached {o : Oper} {a : Act} {w : World} (hh : o.wp P a w (fun _ _ => False) (OnlyN N)) : False := by
  unfold Oper.wp at hh
  generalize (execOp a.eval o).run P w = r at hh
  cases r with
  | ok n w' =>
    cases n <;> simp only [Oper.upon] at hh
    case enter f args =>
      obtain ⟨e, w'', fr, hR, _⟩ := hh []
      cases e <;> first | exact hR | exact OnlyN.not_out hR
    case row row args =>
      obtain ⟨v, w'', hR, _⟩ := hh default []
      exact hR
  | halt x w' => cases x <;> simp only [Oper.upon] at hh; exact hh

theorem stepC_reached {c : Nat} {o : Oper} {a : Act} {w : World} (hh : stepC P ops S N c o (fun _ _ => False) a w) : False := by
  unfold stepC at hh
  split at hh
  · obtain ⟨_, _, h⟩ := hh; exact h
  · split at hh
    · obtain ⟨_, _, h⟩ := hh; exact h
    · split at hh
      · exact Oper.wp_reached (Oper.wp_mono (fun _ _ h => h.2) hh)
      · exact hh

theorem stepC_const {c : Nat} {o : Oper} {A : Prop} {a : Act} {w : World} (hS : S w) (hh : stepC P ops S N c o (fun _ _ => A) a w) : A := by
  by_cases hA : A
  · exact hA
  · exact (stepC_reached (stepC_mono (fun _ _ _ h => hA h) hS hh)).elim

theorem YieldsIf.one {o : Oper} {v : Value} {a : Act} {w : World} (hS : S w) (h : YieldsIf P ops S o v a) : YieldsOne P ops w o v a :=
  h.imp (fun ⟨hw, hv⟩ => ⟨hw, hv w hS⟩) id

theorem YieldsOne.uniq {o : Oper} {v v' : Value} {a : Act} {w : World} (h : YieldsOne P ops w o v a) (h' : YieldsOne P ops w o v' a) : v = v' := by
  rcases h with ⟨h1, h2⟩ | ⟨h1, h2⟩ <;> rcases h' with ⟨h3, h4⟩ | ⟨h3, h4⟩
  · rw [h2] at h4; cases h4; rfl
  · rw [h1] at h3; cases h3
  · rw [h1] at h3; cases h3
  · rw [h2, h4]

theorem YieldsOne.of_same {o : Oper} {v : Value} {a a' : Act} {w : World} (hy : YieldsOne P ops w o v a) (he : execOp a'.eval o = execOp a.eval o)
    (hw : Region.wanted o (yielded ops a'.tmps) = Region.wanted o (yielded ops a.tmps)) : YieldsOne P ops w o v a' := by
  unfold YieldsOne at *
  rw [he, hw]
  exact hy

def plainOp (o : Oper) : Bool := match o.op with | .select .. | .defer _ => false | _ => true

theorem plainOp.sel {o : Oper} (h : plainOp o = true) : ∀ cs b, o.op ≠ .select cs b := fun cs b e => by simp [plainOp, e] at h
theorem plainOp.dfr {o : Oper} (h : plainOp o = true) : ∀ c, o.op ≠ .defer c := fun c e => by simp [plainOp, e] at h

/-- One operation of a state that another one's value has been put into, or not. -/
theorem Oper.wp_put {o : Oper} (hs : ∀ cs b, o.op ≠ .select cs b) {a : Act} {w : World} {d : Option Tmp} {v : Value} (h1 : ∀ t, d = some t → t ∉ o.looksAt ops) (h2 : ∀ t, d = some t → o.dst ≠ some t)
    {K : Act → World → Prop} (hh : o.wp P a w (fun a' w' => K (a'.put d v) w') (OnlyN N)) : o.wp P (a.put d v) w K (OnlyN N) := by
  unfold Oper.wp at *
  rw [execOp_put o hs a d v h1]
  generalize (execOp a.eval o).run P w = r at *
  cases r with
  | ok n w' =>
    cases n <;> simp only [Oper.upon] at hh ⊢
    case value u => rw [Act.put_comm a v u h2]; exact hh
    case skip => rw [Act.put_comm a v undef h2]; exact hh
    case defer c => rw [Act.put_defers a d v c, Act.put_comm _ v undef h2]; exact hh
    case enter f args =>
      refine Calls.mono hh fun e w'' he => ?_
      cases e with
      | returned u => (show K _ _); rw [Act.put_comm a v u h2]; exact he
      | panicked c => exact he
      | outgrown => exact he
    case row row args => exact Rows.mono hh fun u w'' he => by rw [Act.put_comm a v u h2]; exact he
  | halt x w' => cases x <;> simp only [Oper.upon] at hh ⊢; exact hh

/-- The state behind an operation: its slot, and what is deferred. -/
theorem Oper.wp_shape {o : Oper} {a : Act} {w : World} {K : Act → World → Prop} (hh : o.wp P a w K (OnlyN N)) :
    o.wp P a w (fun a' w' => (∃ u ds, a' = ({ a with defers := ds } : Act).put o.dst u) ∧ K a' w') (OnlyN N) := by
  unfold Oper.wp at *
  generalize (execOp a.eval o).run P w = r at *
  cases r with
  | ok n w' =>
    cases n <;> simp only [Oper.upon] at hh ⊢
    case value u => exact ⟨⟨_, a.defers, rfl⟩, hh⟩
    case skip => exact ⟨⟨_, a.defers, rfl⟩, hh⟩
    case defer d => exact ⟨⟨_, d :: a.defers, rfl⟩, hh⟩
    case enter f args =>
      refine Calls.mono hh fun e w'' he => ?_
      cases e with
      | returned u => exact ⟨⟨_, a.defers, rfl⟩, he⟩
      | panicked c => exact he
      | outgrown => exact he
    case row row args => exact Rows.mono hh fun u w'' he => ⟨⟨_, a.defers, rfl⟩, he⟩
  | halt x w' => cases x <;> simp only [Oper.upon] at hh ⊢; exact hh

theorem eval_defers (a : Act) (ds : List Deferred) : ({ a with defers := ds } : Act).eval = a.eval := by
  funext x; cases x <;> rfl

/-- Two operations may change places. -/
def mayPass (ck cj : Nat) : Bool := cj != 3 && (ck == 0 || cj == 0 || (ck == 1 && cj == 1))

theorem stepC_comm {ck cj : Nat} {k j : Oper} (hpass : mayPass ck cj = true) (hap : k.apart ops j = true) (hsk : ∀ cs b, k.op ≠ .select cs b) (hsj : ∀ cs b, j.op ≠ .select cs b)
    {K : Act → World → Prop} {a : Act} {w : World} (hh : stepC P ops S N ck k (stepC P ops S N cj j K) a w) :
    stepC P ops S N cj j (stepC P ops S N ck k K) a w := by
  obtain ⟨h1, h2, h3⟩ := Oper.apart_spec hap
  have hjk : ∀ d, j.dst = some d → k.dst ≠ some d := fun d hd he => h2 d he hd
  have ek : ∀ (a : Act) u, execOp (a.put j.dst u).eval k = execOp a.eval k := fun a u => execOp_put k hsk a j.dst u h3
  have wk : ∀ (a : Act) u, Region.wanted k (yielded ops (a.put j.dst u).tmps) = Region.wanted k (yielded ops a.tmps) := fun a u => wanted_put k a j.dst u h3
  have ej : ∀ (a : Act) u, execOp (a.put k.dst u).eval j = execOp a.eval j := fun a u => execOp_put j hsj a k.dst u h1
  have wj : ∀ (a : Act) u, Region.wanted j (yielded ops (a.put k.dst u).tmps) = Region.wanted j (yielded ops a.tmps) := fun a u => wanted_put j a k.dst u h1
  by_cases k0 : ck = 0
  · -- k hangs on no world
    subst k0
    simp only [stepC, if_true] at hh
    obtain ⟨v, hv, hh⟩ := hh
    have hv' : ∀ u, YieldsIf P ops S k v (a.put j.dst u) := fun u => hv.of_same (ek a u) (wk a u)
    by_cases j0 : cj = 0
    · subst j0
      simp only [if_true] at hh
      obtain ⟨u, hu, hh⟩ := hh
      simp only [stepC, if_true]
      exact ⟨u, hu.of_same (ej a v).symm (wj a v).symm, v, hv' u, by rw [← Act.put_comm a v u h2]; exact hh⟩
    · by_cases j1 : cj = 1
      · subst j1
        simp only [if_neg j0, if_true] at hh
        obtain ⟨u, hu, hh⟩ := hh
        simp only [stepC, if_neg j0, if_true]
        exact ⟨u, hu.of_same (ej a v).symm (wj a v).symm, v, hv' u, by rw [← Act.put_comm a v u h2]; exact hh⟩
      · simp only [if_neg j0, if_neg j1, wj a v] at hh
        simp only [stepC, if_neg j0, if_neg j1, if_true]
        split
        · rename_i hw; rw [if_pos hw] at hh
          have hh2 : j.wp P a w (fun a' w' => S w' ∧ K (a'.put k.dst v) w') (OnlyN N) := by
            unfold Oper.wp at hh ⊢
            rw [ej a v] at hh
            generalize (execOp a.eval j).run P w = r at *
            cases r with
            | ok n w' =>
              cases n <;> simp only [Oper.upon] at hh ⊢
              case value u => rw [← Act.put_comm a v u h2]; exact hh
              case skip => rw [← Act.put_comm a v undef h2]; exact hh
              case defer c => rw [Act.put_defers a k.dst v c, Act.put_comm _ v undef h2] at hh; exact hh
              case enter f args =>
                refine Calls.mono hh fun e w'' he => ?_
                cases e with
                | returned u => (show S _ ∧ K _ _); rw [← Act.put_comm a v u h2]; exact he
                | panicked c => exact he
                | outgrown => exact he
              case row row args => exact Rows.mono hh fun u w'' he => by rw [← Act.put_comm a v u h2]; exact he
            | halt x w' => cases x <;> simp only [Oper.upon] at hh ⊢; exact hh
          refine Oper.wp_mono ?_ (Oper.wp_shape hh2)
          rintro a' w' ⟨⟨u, ds, rfl⟩, hS', hK⟩
          refine ⟨hS', v, ?_, hK⟩
          refine hv.of_same ?_ ?_
          · rw [ek, eval_defers a ds]
          · rw [wk]
        · rename_i hw; rw [if_neg hw] at hh
          exact ⟨v, hv' _, by rw [← Act.put_comm a v undef h2]; exact hh⟩
  · by_cases j0 : cj = 0
    · subst j0
      -- j hangs on no world
      by_cases k1 : ck = 1
      · subst k1
        simp only [stepC, if_neg k0, if_true] at hh ⊢
        obtain ⟨v, hv, u, hu, hh⟩ := hh
        exact ⟨u, hu.of_same (ej a v).symm (wj a v).symm, v, hv.of_same (ek a u) (wk a u), by rw [← Act.put_comm a v u h2]; exact hh⟩
      · simp only [stepC, if_neg k0, if_neg k1, if_true] at hh ⊢
        split at hh
        · rename_i hw
          have hsh := Oper.wp_shape hh
          have hA : ∃ u, YieldsIf P ops S j u a := by
            by_cases hA : ∃ u, YieldsIf P ops S j u a
            · exact hA
            · refine (Oper.wp_reached (Oper.wp_mono ?_ hsh)).elim
              rintro a' w' ⟨⟨x, ds, rfl⟩, hS', u, hu, hK⟩
              exact hA ⟨u, hu.of_same (by rw [ej, eval_defers a ds]) (by rw [wj])⟩
          obtain ⟨u, hu⟩ := hA
          refine ⟨u, hu, ?_⟩
          rw [if_pos (by rw [wk]; exact hw)]
          refine Oper.wp_put hsk h3 (fun t ht => hjk t ht) ?_
          refine Oper.wp_mono ?_ hsh
          rintro a' w' ⟨⟨x, ds, rfl⟩, hS', u', hu', hK⟩
          refine ⟨hS', ?_⟩
          have e : u' = u := (YieldsIf.one hS' (hu'.of_same (a' := a) (by rw [ej, eval_defers a ds]) (by rw [wj]))).uniq (YieldsIf.one hS' hu)
          rw [← e]; exact hK
        · rename_i hw
          obtain ⟨u, hu, hh⟩ := hh
          refine ⟨u, hu.of_same (ej a undef).symm (wj a undef).symm, ?_⟩
          rw [if_neg (by rw [wk]; exact hw), ← Act.put_comm a undef u h2]; exact hh
    · -- both only read
      have hb : ck = 1 ∧ cj = 1 := by
        simp only [mayPass, Bool.or_eq_true, Bool.and_eq_true, beq_iff_eq] at hpass
        rcases hpass.2 with (h | h) | h
        · exact (k0 h).elim
        · exact (j0 h).elim
        · exact h
      obtain ⟨rfl, rfl⟩ := hb
      simp only [stepC, if_neg k0, if_true] at hh ⊢
      obtain ⟨v, hv, u, hu, hh⟩ := hh
      exact ⟨u, hu.of_same (ej a v).symm (wj a v).symm, v, hv.of_same (ek a u) (wk a u), by rw [← Act.put_comm a v u h2]; exact hh⟩

/-- What waits, straight or by others, for number k. -/
def waitsFor (ops : Array Oper) (k : Nat) : List Nat :=
  (List.range ops.size).foldl (fun acc j => if ((ops[j]?).map fun o => o.after.any fun e => Region.binds .any e && (e.on == k || acc.contains e.on)).getD false then j :: acc else acc) []

def Closed (ops : Array Oper) (listed : Array Bool) : Prop :=
  ∀ j oj, ops[j]? = some oj → listed.getD j false = true → ∀ e ∈ oj.after, Region.binds .any e = true → listed.getD e.on false = true

theorem waitsFor_spec {k j : Nat} (hj : j ∈ waitsFor ops k) {listed : Array Bool} (hc : Closed ops listed) (hk : listed.getD k false = false) : j ∉ Region.ready .any ops listed ∧ listed.getD j false = false := by
  unfold waitsFor at hj
  generalize List.range ops.size = rs at hj
  have key : ∀ (rs acc : List Nat), (∀ i ∈ acc, i ∉ Region.ready .any ops listed ∧ listed.getD i false = false) →
      ∀ i ∈ rs.foldl (fun acc j => if ((ops[j]?).map fun o => o.after.any fun e => Region.binds .any e && (e.on == k || acc.contains e.on)).getD false then j :: acc else acc) acc, i ∉ Region.ready .any ops listed ∧ listed.getD i false = false := by
    intro rs
    induction rs with
    | nil => exact fun acc h => h
    | cons x rs ih =>
      intro acc hacc
      refine ih _ ?_
      intro i hi
      by_cases hx : ((ops[x]?).map fun o => o.after.any fun e => Region.binds .any e && (e.on == k || acc.contains e.on)).getD false = true
      · simp only [hx, if_true] at hi
        rcases List.mem_cons.1 hi with rfl | hi
        · cases ho : ops[i]? with
          | none => simp [ho] at hx
          | some o =>
            simp only [ho, Option.map_some, Option.getD_some] at hx
            obtain ⟨e, he, hb⟩ := Array.any_eq_true'.1 hx
            simp only [Bool.and_eq_true, Bool.or_eq_true, beq_iff_eq, List.contains_iff_mem] at hb
            have hun : listed.getD e.on false = false := by
              rcases hb.2 with h | h
              · rw [h]; exact hk
              · exact (hacc _ h).2
            refine ⟨fun hr => ?_, ?_⟩
            · obtain ⟨_, o', ho', hall⟩ := mem_ready.1 hr
              rw [ho] at ho'; cases ho'
              have := hall e he hb.1
              rw [hun] at this; cases this
            · cases hl : listed.getD i false with
              | false => rfl
              | true =>
                have := hc i o ho hl e he hb.1
                rw [hun] at this; cases this
        · exact hacc i hi
      · simp only [if_neg hx] at hi
        exact hacc i hi
  exact key rs [] (fun i hi => by cases hi) j hj

/-- Number k may change places with whatever may come up ahead of it. -/
def passes (ops : Array Oper) (cs : List Nat) (listed : Array Bool) (k : Nat) : Bool :=
  match ops[k]? with
  | none => false
  | some ok => let ws := waitsFor ops k; (List.range ops.size).all fun j => j == k || listed.getD j true || ws.contains j || match ops[j]? with
      | some oj => ok.apart ops oj && mayPass (cs.getD k 2) (cs.getD j 2)
      | none => true

def textFrom (ops : Array Oper) (cs : List Nat) : Nat → Nat → Array Bool → Bool
  | 0, _, listed => (Region.ready .any ops listed).isEmpty
  | fuel + 1, k, listed => (cs.getD k 2 != 3 || fuel == 0) && (Region.ready .any ops listed).contains k && passes ops cs listed k && textFrom ops cs fuel (k + 1) (listed.setIfInBounds k true)

/-- The text's order is one that may be picked, and each other one comes to the same. -/
def textB (ops : Array Oper) (cs : List Nat) : Bool := Region.noSelect ops && cs.length == ops.size && textFrom ops cs ops.size 0 (Array.replicate ops.size false)

theorem Closed.set {i : Nat} {listed : Array Bool} (hc : Closed ops listed) (hi : i ∈ Region.ready .any ops listed) : Closed ops (listed.setIfInBounds i true) := by
  obtain ⟨_, oi, hoi, hall⟩ := mem_ready.1 hi
  intro j oj hj hl e he hb
  by_cases hij : i = j
  · subst hij
    rw [hoi] at hj; cases hj
    exact getD_set_true (hall e he hb)
  · rw [getD_set_ne false hij] at hl
    exact getD_set_true (hc j oj hj hl e he hb)

theorem getD_both' {listed : Array Bool} {i : Nat} (h : listed.getD i true = false) : listed.getD i false = false := by
  rcases Nat.lt_or_ge i listed.size with h' | h'
  · simp [h'] at h ⊢; exact h
  · simp [Array.getElem?_eq_none h'] at h

theorem wpAnyT_first {k : Nat} {ok : Oper} (hk : ops[k]? = some ok) (hk3 : ¬ cs.getD k 2 = 3) (hns : Region.noSelect ops = true) :
    ∀ (fuel : Nat) (listed : Array Bool) (a : Act) (w : World), S w → Closed ops listed →
      (∀ j oj, ops[j]? = some oj → j ≠ k → listed.getD j true = false → j ∉ waitsFor ops k → ok.apart ops oj = true ∧ mayPass (cs.getD k 2) (cs.getD j 2) = true) →
      k ∈ Region.ready .any ops listed →
      stepC P ops S N (cs.getD k 2) ok (wpAnyT P ops S N cs fuel (listed.setIfInBounds k true)) a w → wpAnyT P ops S N cs (fuel + 1) listed a w := by
  intro fuel
  induction fuel with
  | zero =>
    intro listed a w hS hc hfree hr H
    refine ⟨fun h => (by rw [h] at hr; cases hr), fun j hj => ?_⟩
    by_cases hjk : j = k
    · subst hjk; unfold stepAt; simp only [hk]; rw [if_neg hk3]; exact H
    · have h0 := ready_mono hj hjk
      have : (Region.ready .any ops (listed.setIfInBounds k true)) = [] := stepC_const hS (stepC_mono (fun _ _ _ h => h.1) hS H)
      rw [this] at h0; cases h0
  | succ fuel ih =>
    intro listed a w hS hc hfree hr H
    refine ⟨fun h => (by rw [h] at hr; cases hr), fun j hj => ?_⟩
    by_cases hjk : j = k
    · subst hjk; unfold stepAt; simp only [hk]; rw [if_neg hk3]; exact H
    · obtain ⟨hjun, oj, hoj, hall⟩ := mem_ready.1 hj
      have hkun : listed.getD k false = false := getD_both' (mem_ready.1 hr).1
      have hjw : j ∉ waitsFor ops k := fun h => (waitsFor_spec h hc hkun).1 hj
      obtain ⟨hap, hpass⟩ := hfree j oj hoj hjk hjun hjw
      have hj3 : ¬ cs.getD j 2 = 3 := fun e => by
        rw [e] at hpass
        simp only [mayPass, Bool.or_eq_true, Bool.and_eq_true, beq_iff_eq, bne_iff_ne] at hpass
        exact hpass.1 rfl
      have H1 : stepC P ops S N (cs.getD k 2) ok (stepC P ops S N (cs.getD j 2) oj (wpAnyT P ops S N cs fuel ((listed.setIfInBounds k true).setIfInBounds j true))) a w := by
        refine stepC_mono (fun a' w' _ h => ?_) hS H
        have := h.2 j (ready_mono hj hjk)
        unfold stepAt at this; simp only [hoj] at this; rw [if_neg hj3] at this; exact this
      have H2 := stepC_comm hpass hap (Region.noSelect_spec hns k ok · · hk) (Region.noSelect_spec hns j oj · · hoj) H1
      unfold stepAt; simp only [hoj]
      rw [if_neg hj3]
      refine stepC_mono (fun a' w' hS' h => ih (listed.setIfInBounds j true) a' w' hS' (hc.set hj) ?_ (ready_mono hr (Ne.symm hjk)) ?_) hS H2
      · intro i oi hi hik hun hiw
        refine hfree i oi hi hik ?_ hiw
        by_cases hji : j = i
        · subst hji; exact hjun
        · rw [getD_set_ne true hji] at hun; exact hun
      · rw [Array.setIfInBounds_comm _ _ hjk]
        exact h

theorem passes_spec {k : Nat} {ok : Oper} {listed : Array Bool} (hk : ops[k]? = some ok) (h : passes ops cs listed k = true) (j : Nat) (oj : Oper)
    (hj : ops[j]? = some oj) (hne : j ≠ k) (hun : listed.getD j true = false) (hw : j ∉ waitsFor ops k) : ok.apart ops oj = true ∧ mayPass (cs.getD k 2) (cs.getD j 2) = true := by
  simp only [passes, hk, List.all_eq_true, List.mem_range] at h
  have h1 := h j (Array.getElem?_eq_some_iff.1 hj).1
  simp only [hj, Bool.or_eq_true, Bool.and_eq_true, beq_iff_eq, hne, false_or, hun, Bool.false_eq_true, List.contains_iff_mem, hw] at h1
  exact h1

theorem wpAnyT_text (hns : Region.noSelect ops = true) : ∀ (l : List Oper) (k : Nat) (listed : Array Bool) (a : Act) (w : World), (∀ j, l[j]? = ops[k + j]?) → S w → Closed ops listed →
    textFrom ops cs l.length k listed = true → cs.length = ops.size → wpT P ops S N (cs.drop k) l a w → wpAnyT P ops S N cs l.length listed a w
  | [], k, listed, a, w, _, _, _, hB, _, h => by
    refine ⟨by simpa [textFrom] using hB, ?_⟩
    unfold wpT at h
    exact h
  | o :: l, k, listed, a, w, hl, hS, hc, hB, hlen, h => by
    have h0 : ops[k]? = some o := by simpa using (hl 0).symm
    have hlt : k < ops.size := (Array.getElem?_eq_some_iff.1 h0).1
    simp only [List.length_cons, textFrom, Bool.and_eq_true] at hB
    obtain ⟨⟨⟨h3, hr⟩, hp⟩, hB'⟩ := hB
    have hr' : k ∈ Region.ready .any ops listed := by simpa using hr
    rw [List.drop_eq_getElem_cons (by omega)] at h
    have hck : cs.getD k 2 = cs[k]'(by omega) := by simp [List.getD, List.getElem?_eq_getElem (show k < cs.length by omega)]
    unfold wpT at h
    by_cases c3 : cs[k]'(by omega) = 3
    · rw [if_pos c3] at h
      obtain ⟨rfl, h⟩ := h
      refine ⟨fun h => (by rw [h] at hr'; cases hr'), fun j hj => ?_⟩
      have hdone : Region.ready .any ops (listed.setIfInBounds k true) = [] := by simpa [textFrom] using hB'
      by_cases hjk : j = k
      · subst hjk
        unfold stepAt; simp only [h0]; rw [hck, if_pos c3]
        exact lastC_mono (fun a w h => wpAny_done hdone h _) h
      · have := ready_mono hj hjk
        rw [hdone] at this; cases this
    rw [if_neg c3] at h
    refine wpAnyT_first h0 (by rw [hck]; exact c3) hns l.length listed a w hS hc (passes_spec h0 hp) hr' ?_
    rw [hck]
    refine stepC_mono (fun a' w' hS' h' => wpAnyT_text hns l (k + 1) _ _ _ (fun j => by have := hl (j + 1); simpa [Nat.add_assoc, Nat.add_comm 1 j] using this) hS' (hc.set hr') hB' hlen h') hS h

theorem wpAny_of_T : ∀ (fuel : Nat) (listed : Array Bool) (a : Act) (w : World), S w → wpAnyT P ops S N cs fuel listed a w → wpAny P .any ops (OnlyN N) fuel listed a w
  | 0, _, _, _, _, h => h
  | fuel + 1, listed, a, w, hS, h => ⟨h.1, fun i hi => by
      have h1 := h.2 i hi
      unfold stepAt at h1
      unfold wpOp
      cases ho : ops[i]? with
      | none => obtain ⟨_, o, ho', _⟩ := mem_ready.1 hi; rw [ho] at ho'; cases ho'
      | some o =>
        simp only [ho] at h1 ⊢
        have one : ∀ v, YieldsOne P ops w o v a → wpAnyT P ops S N cs fuel (listed.setIfInBounds i true) (a.put o.dst v) w →
            if Region.wanted o (yielded ops a.tmps) then o.wp P a w (wpAny P .any ops (OnlyN N) fuel (listed.setIfInBounds i true)) (OnlyN N) ∨ (o.asks P a w ∧ LetsOut (OnlyN N)) else wpAny P .any ops (OnlyN N) fuel (listed.setIfInBounds i true) (a.put o.dst undef) w := by
          intro v hy hk
          have hk' := wpAny_of_T fuel _ _ _ hS hk
          rcases hy with ⟨hw, hv⟩ | ⟨hw, rfl⟩
          · rw [if_pos hw]; refine .inl ?_; unfold Oper.wp; rw [hv]; exact hk'
          · rw [if_neg (by rw [hw]; exact Bool.false_ne_true)]; exact hk'
        split at h1
        · -- the last one
          unfold lastC at h1
          split at h1
          · rename_i hw; rw [if_pos hw]; exact .inl (Oper.wp_mono (fun a' w' hk => hk) h1)
          · rename_i hw; rw [if_neg hw]; exact h1
        unfold stepC at h1
        split at h1
        · obtain ⟨v, hy, hk⟩ := h1; exact one v (YieldsIf.one hS hy) hk
        · split at h1
          · obtain ⟨v, hy, hk⟩ := h1; exact one v hy hk
          · split at h1
            · rename_i hw; rw [if_pos hw]; exact .inl (Oper.wp_mono (fun a' w' hk => wpAny_of_T fuel _ _ _ hk.1 hk.2) h1)
            · rename_i hw; rw [if_neg hw]; exact wpAny_of_T fuel _ _ _ hS h1⟩

/-- **A drawn region in its text's order.** -/
theorem wp_region_text {id : Nat} {Q : Exit → Act → World → Prop} {a : Act} {w : World} {l : List Oper} (cs : List Nat) (S : World → Prop) (hm : P.follows .mixedOrders = true) (hB : textB l.toArray cs = true)
    (hS : S w.drew) (h : wpT P l.toArray S (Q .normal) cs l a w.drew) : (Code.region id l.toArray true).wp P Q a w := by
  simp only [textB, Bool.and_eq_true, beq_iff_eq] at hB
  refine Code.wp_mono (Q := OnlyN (Q .normal)) (fun e a w q => by cases e <;> first | exact q | exact q.elim) ?_
  refine wp_region_any hm (wpAny_of_T (S := S) (cs := cs) _ _ _ _ hS ?_)
  have := wpAnyT_text (P := P) (S := S) (N := Q .normal) (cs := cs) hB.1.1 l 0 (Array.replicate l.toArray.size false) a w.drew (by simp) hS
    (fun j oj _ hl => by exfalso; simp [Array.getD] at hl) (by simpa using hB.2) hB.1.2 (by simpa using h)
  simpa using this

/-! The steps of such a walk -/
variable {o : Oper} {l : List Oper} {c : Nat} {a : Act} {w : World}

theorem wpT_nil {cs : List Nat} (h : N a w) : wpT P ops S N cs [] a w := by cases cs <;> exact h

theorem wpT_skip (hw : Region.wanted o (yielded ops a.tmps) = false) (hc : (c == 3) = false) (h : wpT P ops S N cs l (a.put o.dst undef) w) : wpT P ops S N (c :: cs) (o :: l) a w := by
  unfold wpT stepC
  rw [if_neg (by simpa using hc)]
  split
  · exact ⟨undef, .inr ⟨hw, rfl⟩, h⟩
  · split
    · exact ⟨undef, .inr ⟨hw, rfl⟩, h⟩
    · rw [if_neg (by rw [hw]; exact Bool.false_ne_true)]; exact h

theorem wpT_calm {v : Value} (hw : Region.wanted o (yielded ops a.tmps) = true) (hv : ∀ W, S W → (execOp a.eval o).run P W = .ok (.value v) W)
    (h : wpT P ops S N cs l (a.put o.dst v) w) : wpT P ops S N (0 :: cs) (o :: l) a w := by
  unfold wpT stepC
  exact ⟨v, .inl ⟨hw, hv⟩, h⟩

theorem wpT_reads {v : Value} (hw : Region.wanted o (yielded ops a.tmps) = true) (hv : (execOp a.eval o).run P w = .ok (.value v) w)
    (h : wpT P ops S N cs l (a.put o.dst v) w) : wpT P ops S N (1 :: cs) (o :: l) a w := by
  unfold wpT stepC
  exact ⟨v, .inl ⟨hw, hv⟩, h⟩

theorem wpT_does (hw : Region.wanted o (yielded ops a.tmps) = true) (hQ : ∀ K : Act → World → Prop, (∀ a' w', S w' → wpT P ops S N cs l a' w' → K a' w') → o.wp P a w K (OnlyN N)) : wpT P ops S N (2 :: cs) (o :: l) a w := by
  unfold wpT stepC
  rw [if_neg (by decide), if_neg (by decide), if_neg (by decide), if_pos hw]
  exact hQ _ (fun _ _ h h' => ⟨h, h'⟩)

theorem wpT_last (hw : Region.wanted o (yielded ops a.tmps) = true) (hQ : ∀ K : Act → World → Prop, (∀ a' w', N a' w' → K a' w') → o.wp P a w K (OnlyN N)) : wpT P ops S N [3] [o] a w := by
  unfold wpT lastC
  rw [if_pos rfl, if_pos hw]
  exact ⟨rfl, hQ _ (fun _ _ h => h)⟩

/-! The same, number by number: where two that do something may come up in either order, both are walked. -/

def wpAnyX (P : Program) (ops : Array Oper) (S : World → Prop) (N : Act → World → Prop) (cs : List Nat) (fuel : Nat) (listed : Array Bool) (a : Act) (w : World) : Prop :=
  S w → Closed ops listed → wpAnyT P ops S N cs fuel listed a w

/-- Number k, of class c, may be taken first. -/
def takeB (ops : Array Oper) (cs : List Nat) (listed : Array Bool) (k c : Nat) : Bool :=
  Region.noSelect ops && cs.getD k 2 == c && (Region.ready .any ops listed).contains k && passes ops cs listed k

section
variable {fuel : Nat} {listed : Array Bool} {k : Nat}

theorem anyX_take (hk : ops[k]? = some o) (hc : c ≠ 3) (hp : takeB ops cs listed k c = true)
    (h : stepC P ops S N c o (wpAnyX P ops S N cs fuel (listed.setIfInBounds k true)) a w) : wpAnyX P ops S N cs (fuel + 1) listed a w := by
  intro hS hC
  simp only [takeB, Bool.and_eq_true, beq_iff_eq] at hp
  obtain ⟨⟨⟨hns, hcl⟩, hr⟩, hps⟩ := hp
  have hr' : k ∈ Region.ready .any ops listed := by simpa using hr
  refine wpAnyT_first hk (by rw [hcl]; exact hc) hns fuel listed a w hS hC (passes_spec hk hps) hr' ?_
  rw [hcl]
  exact stepC_mono (fun a' w' hS' h' => h' hS' (hC.set hr')) hS h

theorem anyX_calm {v : Value} (k : Nat) (hk : ops[k]? = some o) (hp : takeB ops cs listed k 0 = true) (hw : Region.wanted o (yielded ops a.tmps) = true) (hv : ∀ W, S W → (execOp a.eval o).run P W = .ok (.value v) W)
    (h : wpAnyX P ops S N cs fuel (listed.setIfInBounds k true) (a.put o.dst v) w) : wpAnyX P ops S N cs (fuel + 1) listed a w :=
  anyX_take hk (by decide) hp (by unfold stepC; exact ⟨v, .inl ⟨hw, hv⟩, h⟩)

theorem anyX_reads {v : Value} (k : Nat) (hk : ops[k]? = some o) (hp : takeB ops cs listed k 1 = true) (hw : Region.wanted o (yielded ops a.tmps) = true) (hv : (execOp a.eval o).run P w = .ok (.value v) w)
    (h : wpAnyX P ops S N cs fuel (listed.setIfInBounds k true) (a.put o.dst v) w) : wpAnyX P ops S N cs (fuel + 1) listed a w :=
  anyX_take hk (by decide) hp (by unfold stepC; exact ⟨v, .inl ⟨hw, hv⟩, h⟩)

theorem anyX_does (k : Nat) (hk : ops[k]? = some o) (hp : takeB ops cs listed k 2 = true) (hw : Region.wanted o (yielded ops a.tmps) = true)
    (hQ : ∀ K : Act → World → Prop, (∀ a' w', S w' → wpAnyX P ops S N cs fuel (listed.setIfInBounds k true) a' w' → K a' w') → o.wp P a w K (OnlyN N)) : wpAnyX P ops S N cs (fuel + 1) listed a w :=
  anyX_take hk (by decide) hp (by
    unfold stepC
    rw [if_neg (by decide), if_neg (by decide), if_pos hw]
    exact hQ _ (fun _ _ h h' => ⟨h, h'⟩))

theorem anyX_skip (k : Nat) (c : Nat) (hc : (c == 3) = false) (hk : ops[k]? = some o) (hp : takeB ops cs listed k c = true) (hw : Region.wanted o (yielded ops a.tmps) = false)
    (h : wpAnyX P ops S N cs fuel (listed.setIfInBounds k true) (a.put o.dst undef) w) : wpAnyX P ops S N cs (fuel + 1) listed a w :=
  anyX_take hk (by simpa using hc) hp (by
    unfold stepC
    split
    · exact ⟨undef, .inr ⟨hw, rfl⟩, h⟩
    · split
      · exact ⟨undef, .inr ⟨hw, rfl⟩, h⟩
      · rw [if_neg (by rw [hw]; exact Bool.false_ne_true)]; exact h)

/-- Two may come up, and both do something. -/
theorem anyX_two {oi oj : Oper} (i j : Nat) (hi : ops[i]? = some oi) (hj : ops[j]? = some oj) (hr : Region.ready .any ops listed = [i, j]) (hci : cs.getD i 2 = 2) (hcj : cs.getD j 2 = 2)
    (hwi : Region.wanted oi (yielded ops a.tmps) = true) (hwj : Region.wanted oj (yielded ops a.tmps) = true)
    (hQi : ∀ K : Act → World → Prop, (∀ a' w', S w' → wpAnyX P ops S N cs fuel (listed.setIfInBounds i true) a' w' → K a' w') → oi.wp P a w K (OnlyN N))
    (hQj : ∀ K : Act → World → Prop, (∀ a' w', S w' → wpAnyX P ops S N cs fuel (listed.setIfInBounds j true) a' w' → K a' w') → oj.wp P a w K (OnlyN N)) : wpAnyX P ops S N cs (fuel + 1) listed a w := by
  intro hS hC
  refine ⟨fun h => (by rw [h] at hr; cases hr), fun n hn => ?_⟩
  have hn' := hn
  rw [hr] at hn'
  have e2 : n = i ∨ n = j := by simpa using hn'
  rcases e2 with rfl | rfl
  · unfold stepAt stepC
    simp only [hi, hci]
    rw [if_neg (by decide), if_neg (by decide), if_neg (by decide), if_pos hwi]
    exact hQi _ (fun a' w' h h' => ⟨h, h' h (hC.set hn)⟩)
  · unfold stepAt stepC
    simp only [hj, hcj]
    rw [if_neg (by decide), if_neg (by decide), if_neg (by decide), if_pos hwj]
    exact hQj _ (fun a' w' h h' => ⟨h, h' h (hC.set hn)⟩)

theorem anyX_last (k : Nat) (hk : ops[k]? = some o) (hp : (cs.getD k 2 == 3 && Region.ready .any ops listed == [k] && (Region.ready .any ops (listed.setIfInBounds k true)).isEmpty) = true) (hw : Region.wanted o (yielded ops a.tmps) = true)
    (hQ : ∀ K : Act → World → Prop, (∀ a' w', N a' w' → K a' w') → o.wp P a w K (OnlyN N)) : wpAnyX P ops S N cs (fuel + 1) listed a w := by
  intro hS hC
  simp only [Bool.and_eq_true, beq_iff_eq, List.isEmpty_iff] at hp
  obtain ⟨⟨hc, hr⟩, hd⟩ := hp
  refine ⟨fun h => (by rw [h] at hr; cases hr), fun n hn => ?_⟩
  rw [hr] at hn
  have : n = k := by simpa using hn
  subst this
  unfold stepAt lastC
  simp only [hk, hc, if_true]
  rw [if_pos hw]
  exact hQ _ (fun _ _ h => wpAny_done hd h _)

/-- One for which all others ahead of it have been waited: behind it another S, and other classes. -/
theorem anyX_bar (S' : World → Prop) (cs' : List Nat) (k : Nat) (hk : ops[k]? = some o) (hp : (cs.getD k 2 == 3 && Region.ready .any ops listed == [k]) = true) (hw : Region.wanted o (yielded ops a.tmps) = true)
    (hQ : ∀ K : Act → World → Prop, (∀ a' w', S' w' → wpAnyX P ops S' N cs' fuel (listed.setIfInBounds k true) a' w' → K a' w') → o.wp P a w K (OnlyN N)) : wpAnyX P ops S N cs (fuel + 1) listed a w := by
  intro hS hC
  simp only [Bool.and_eq_true, beq_iff_eq] at hp
  obtain ⟨hc, hr⟩ := hp
  refine ⟨fun h => (by rw [h] at hr; cases hr), fun n hn => ?_⟩
  have hn' := hn
  rw [hr] at hn
  have : n = k := by simpa using hn
  subst this
  unfold stepAt lastC
  simp only [hk, hc, if_true]
  rw [if_pos hw]
  exact hQ _ (fun a' w' hS' h' => wpAny_of_T fuel _ _ _ hS' (h' hS' (hC.set hn')))

theorem anyX_done (hr : Region.ready .any ops listed = []) (h : N a w) : wpAnyX P ops S N cs fuel listed a w := by
  intro hS hC
  cases fuel with
  | zero => exact ⟨hr, h⟩
  | succ n => exact ⟨fun _ => h, by rw [hr]; intro i hi; cases hi⟩
end

/-- **A drawn region, number by number.** -/
theorem wp_region_steps {id : Nat} {Q : Exit → Act → World → Prop} {a : Act} {w : World} {l : List Oper} (cs : List Nat) (S : World → Prop) (hm : P.follows .mixedOrders = true)
    (hS : S w.drew) (h : wpAnyX P l.toArray S (Q .normal) cs l.length (Array.replicate l.length false) a w.drew) : (Code.region id l.toArray true).wp P Q a w := by
  refine Code.wp_mono (Q := OnlyN (Q .normal)) (fun e a w q => by cases e <;> first | exact q | exact q.elim) ?_
  refine wp_region_any hm (wpAny_of_T (S := S) (cs := cs) _ _ _ _ hS ?_)
  have := h hS (fun j oj _ hl => by exfalso; simp [Array.getD] at hl)
  simpa using this

/-! What hangs on no world may be taken ahead of all, whatever the classes of the others. -/

theorem T_of_any {cs : List Nat} : ∀ (fuel : Nat) (listed : Array Bool) (a : Act) (w : World), (∀ j, j < ops.size → listed.getD j true = false → cs.getD j 2 = 2) →
    wpAny P .any ops (OnlyN N) fuel listed a w → wpAnyT P ops (fun _ => True) N cs fuel listed a w
  | 0, _, _, _, _, h => h
  | fuel + 1, listed, a, w, h2, h => ⟨h.1, fun i hi => by
      have h1 := h.2 i hi
      obtain ⟨hun, oi, hoi, _⟩ := mem_ready.1 hi
      have hc := h2 i (Array.getElem?_eq_some_iff.1 hoi).1 hun
      unfold wpOp at h1
      unfold stepAt stepC
      simp only [hoi] at h1 ⊢
      rw [hc, if_neg (by decide), if_neg (by decide), if_neg (by decide)]
      have sub : ∀ a' w', wpAny P .any ops (OnlyN N) fuel (listed.setIfInBounds i true) a' w' → True ∧ wpAnyT P ops (fun _ => True) N cs fuel (listed.setIfInBounds i true) a' w' := fun a' w' hk =>
        ⟨trivial, T_of_any fuel _ a' w' (fun j hj hl => h2 j hj (by
          by_cases e : i = j
          · subst e; exact hun
          · rwa [getD_set_ne true e] at hl)) hk⟩
      split at h1
      · rename_i hw
        rw [if_pos hw]
        rcases h1 with h1 | ⟨_, h1⟩
        · exact Oper.wp_mono sub h1
        · exact absurd h1 OnlyN.not_out
      · rename_i hw
        rw [if_neg hw]
        exact (sub _ _ h1).2⟩

def wpAnyY (P : Program) (ops : Array Oper) (N : Act → World → Prop) (fuel : Nat) (listed : Array Bool) (a : Act) (w : World) : Prop :=
  Closed ops listed → wpAny P .any ops (OnlyN N) fuel listed a w

theorem anyY_pure {fuel : Nat} {listed : Array Bool} {v : Value} (k : Nat) (hk : ops[k]? = some o) (hp : takeB ops (List.replicate k 2 ++ [0]) listed k 0 = true) (hw : Region.wanted o (yielded ops a.tmps) = true)
    (hv : ∀ W, (execOp a.eval o).run P W = .ok (.value v) W) (h : wpAnyY P ops N fuel (listed.setIfInBounds k true) (a.put o.dst v) w) : wpAnyY P ops N (fuel + 1) listed a w := by
  intro hC
  refine wpAny_of_T (S := fun _ => True) (cs := List.replicate k 2 ++ [0]) _ _ _ _ trivial ?_
  have : wpAnyX P ops (fun _ => True) N (List.replicate k 2 ++ [0]) (fuel + 1) listed a w := anyX_calm k hk hp hw (fun W _ => hv W) (fun _ hC' => T_of_any _ _ _ _ (fun j _ hl => by
    have hjk : k ≠ j := fun e => by
      subst e
      rw [Array.getD_eq_getD_getElem?, Array.getElem?_setIfInBounds] at hl
      split at hl
      · split at hl <;> cases hl
      · rename_i h; exact h rfl
    rcases Nat.lt_trichotomy j k with h1 | h1 | h1
    · simp [List.getD, List.getElem?_append_left, h1]
    · exact absurd h1.symm hjk
    · rw [List.getD_eq_getElem?_getD, List.getElem?_eq_none (by simp; omega)]; rfl) (h hC'))
  exact this trivial hC

theorem anyY_go {fuel : Nat} {listed : Array Bool} (cs : List Nat) (S : World → Prop) (hS : S w) (h : wpAnyX P ops S N cs fuel listed a w) : wpAnyY P ops N fuel listed a w :=
  fun hC => wpAny_of_T (S := S) (cs := cs) _ _ _ _ hS (h hS hC)

theorem wp_region_pure {id : Nat} {Q : Exit → Act → World → Prop} {a : Act} {w : World} {l : List Oper} (hm : P.follows .mixedOrders = true)
    (h : wpAnyY P l.toArray (Q .normal) l.length (Array.replicate l.length false) a w.drew) : (Code.region id l.toArray true).wp P Q a w := by
  refine Code.wp_mono (Q := OnlyN (Q .normal)) (fun e a w q => by cases e <;> first | exact q | exact q.elim) ?_
  refine wp_region_any hm ?_
  have := h (fun j oj _ hl => by exfalso; simp [Array.getD] at hl)
  simpa using this

end
end Go.Proofs.Ytpijnpapmdnceaa

namespace Go.Proofs.Ytpijnpapmdnceaa
open Go Go.RowKit

/-- Beside the blocks of F the world w' is as w was; new blocks may have come. -/
structure Keep (F : Nat → Prop) (w w' : World) : Prop where
  os : w'.os = w.os
  tape : w'.tape = w.tape
  output : w'.output = w.output
  size : w.heap.size ≤ w'.heap.size
  block : ∀ k, k < w.heap.size → ¬ F k → w'.heap[k]? = w.heap[k]?

theorem Keep.refl (F : Nat → Prop) (w : World) : Keep F w w := ⟨rfl, rfl, rfl, Nat.le_refl _, fun _ _ _ => rfl⟩

theorem Keep.trans {F : Nat → Prop} {a b c : World} (h : Keep F a b) (k : Keep F b c) : Keep F a c :=
  ⟨k.os.trans h.os, k.tape.trans h.tape, k.output.trans h.output, Nat.le_trans h.size k.size,
    fun i hi hf => (k.block i (Nat.lt_of_lt_of_le hi h.size) hf).trans (h.block i hi hf)⟩

/-- What follows may turn F's blocks and whatever is new since the beginning. -/
theorem Keep.then {F G : Nat → Prop} {a b c : World} (h : Keep F a b) (k : Keep G b c) (hG : ∀ i, G i → F i ∨ a.heap.size ≤ i) : Keep F a c :=
  ⟨k.os.trans h.os, k.tape.trans h.tape, k.output.trans h.output, Nat.le_trans h.size k.size,
    fun i hi hf => (k.block i (Nat.lt_of_lt_of_le hi h.size) (fun hg => (hG i hg).elim hf (fun hl => by omega))).trans (h.block i hi hf)⟩

theorem Keep.mono {F G : Nat → Prop} {w w' : World} (h : Keep F w w') (hF : ∀ k, k < w.heap.size → F k → G k) : Keep G w w' :=
  ⟨h.os, h.tape, h.output, h.size, fun k hk hg => h.block k hk (fun hf => hg (hF k hk hf))⟩

theorem Keep.drew {F : Nat → Prop} {a w : World} (h : Keep F a w) : Keep F a w.drew := ⟨h.os, h.tape, h.output, h.size, h.block⟩

theorem Keep.alloc {F : Nat → Prop} {a w : World} (h : Keep F a w) (o : Obj) : Keep F a (w.alloc o) :=
  ⟨h.os, h.tape, h.output, Nat.le_trans h.size (by simp), fun k hk hf => (Below.heap_alloc _ _ _ (Nat.lt_of_lt_of_le hk h.size)).trans (h.block k hk hf)⟩

theorem Keep.setCell {F : Nat → Prop} {a w : World} (h : Keep F a w) {p : Addr} (hp : F p.block ∨ a.heap.size ≤ p.block) (u : Value) : Keep F a (w.setCell p u) :=
  ⟨h.os, h.tape, h.output, by simpa [World.setCell] using h.size, fun k hk hf => by
    rw [Below.heap_setCell _ _ _ _ (fun e => by subst e; exact hp.elim hf (fun hl => by omega))]; exact h.block k hk hf⟩

theorem Keep.below {F : Nat → Prop} {w w' : World} {B : Nat} (h : Keep F w w') (hF : ∀ k, F k → B ≤ k) (hB : B ≤ w.heap.size) : Below B w w' :=
  ⟨h.os, h.tape, h.output, h.size, fun k hk => h.block k (Nat.lt_of_lt_of_le hk hB) (fun hf => by have := hF k hf; omega)⟩

theorem Keep.of_below {w w' : World} (h : Below w.heap.size w w') (F : Nat → Prop) : Keep F w w' :=
  ⟨h.os, h.tape, h.output, h.size, fun k hk _ => h.block k hk⟩

theorem Keep.grown {F : Nat → Prop} {a w w' : World} {row : Option Nat} (h : Keep F a w) (hg : w.grownBy w' row) (hr : ∀ k, row = some k → F k ∨ a.heap.size ≤ k) : Keep F a w' :=
  ⟨hg.os.trans h.os, hg.tape.trans h.tape, hg.output.trans h.output, Nat.le_trans h.size hg.size,
    fun k hk hf => (hg.block k (Nat.lt_of_lt_of_le hk h.size) (fun e => (hr k e.symm).elim hf (fun hl => by omega))).trans (h.block k hk hf)⟩

theorem Keep.cell {F : Nat → Prop} {w w' : World} (h : Keep F w w') {p : Addr} (hp : p.block < w.heap.size) (hf : ¬ F p.block) : w'.cell? p = w.cell? p := World.cell?_of_block (w := w) (h.block p.block hp hf)

theorem Keep.frozen {F : Nat → Prop} {w w' : World} (h : Keep F w w') {p : Addr} (hp : p.block < w.heap.size) (hf : ¬ F p.block) : w'.frozen? p = w.frozen? p := World.frozen?_of_block (w := w) (h.block p.block hp hf)

theorem lt_of_heap {w : World} {b : Nat} {o : Obj} (h : w.heap[b]? = some o) : b < w.heap.size := (Array.getElem?_eq_some_iff.1 h).1

theorem Keep.setOwn {b o : Nat} {a w : World} (h : Keep (fun k => k = b) a w) (u : Value) : Keep (fun k => k = b) a (w.setCell ⟨b, o, none⟩ u) :=
  h.setCell (F := fun k => k = b) (p := ⟨b, o, none⟩) (.inl rfl) u

theorem Keep.of_grown {w w' : World} {row : Option Nat} (hg : w.grownBy w' row) : Keep (fun k => row = some k) w w' :=
  ⟨hg.os, hg.tape, hg.output, hg.size, fun k hk hf => hg.block k hk (fun e => hf e.symm)⟩

theorem hid {p : Prop} (h : p) : Hid p := h

end Go.Proofs.Ytpijnpapmdnceaa

namespace Go.Proofs.Ytpijnpapmdnceaa
open Go Go.RowKit

theorem owns_form {w : World} {B e s : Nat} {v : Value} {n : Nat} {xs : List Value} (h : w.ownsRow B e s v n xs) : ∃ a c, v = .slice a n c := by
  obtain ⟨_, ⟨rfl, rfl⟩ | ⟨g, cap, cur, rfl, _⟩⟩ := h
  · exact ⟨none, 0, rfl⟩
  · exact ⟨_, _, rfl⟩

theorem owns_block {w w' : World} {B e s : Nat} {v : Value} {n : Nat} {xs : List Value} (h : w.ownsRow B e s v n xs) (hb : ∀ k, v.ownBlock = some k → w'.heap[k]? = w.heap[k]?) : w'.ownsRow B e s v n xs := by
  obtain ⟨h1, h2 | ⟨g, cap, cur, rfl, hb', hg, r⟩⟩ := h
  · exact ⟨h1, .inl h2⟩
  · exact ⟨h1, .inr ⟨g, cap, cur, rfl, hb', by rw [hb g rfl]; exact hg, r⟩⟩

theorem owns_keep {F : Nat → Prop} {w w' : World} {B e s : Nat} {v : Value} {n : Nat} {xs : List Value} (h : w.ownsRow B e s v n xs) (hK : Keep F w w') (hF : ∀ k, v.ownBlock = some k → ¬ F k) : w'.ownsRow B e s v n xs :=
  owns_block h fun k hk => hK.block k (h.lt k hk).2 (hF k hk)

/-- A source: nil, or cells that can be read. -/
def Src (w : World) (sv : Value) (m size : Nat) (news : List Value) : Prop :=
  (sv = .slice none 0 0 ∧ m = 0 ∧ news = []) ∨ ∃ ad c, sv = .slice (some ad) m c ∧ news.length = m * size ∧ (∀ j u, news[j]? = some u → w.cell? (ad.add j) = some u) ∧ ∀ u ∈ news, u.oneCell' = true

theorem Src.keep {F : Nat → Prop} {w w' : World} {sv : Value} {m size : Nat} {news : List Value} (h : Src w sv m size news) (hK : Keep F w w') (hF : ∀ k, sv.ownBlock = some k → ¬ F k) : Src w' sv m size news := by
  rcases h with h | ⟨ad, c, rfl, hl, hc, h1⟩
  · exact .inl h
  · refine .inr ⟨ad, c, rfl, hl, fun j u hu => ?_, h1⟩
    have := hc j u hu
    have hb : (ad.add j).block = ad.block := by unfold Addr.add; split <;> rfl
    rw [hK.cell (by exact World.block_lt_of_cell? _ _ this) (by rw [hb]; exact hF _ rfl)]
    exact this

theorem owns_src {w : World} {B e s : Nat} {v : Value} {n : Nat} {xs : List Value} (h : w.ownsRow B e s v n xs) (h1 : ∀ u ∈ xs, u.oneCell' = true) : Src w v n s xs := by
  have hc := fun g (hg : v.ownBlock = some g) => h.cells hg
  obtain ⟨hl, ⟨rfl, rfl⟩ | ⟨g, cap, cur, rfl, _⟩⟩ := h
  · exact .inl ⟨rfl, rfl, List.eq_nil_of_length_eq_zero (by simpa using hl)⟩
  · exact .inr ⟨_, _, rfl, hl, hc g rfl, h1⟩

/-- 'append(s, x...)', s the call's own. -/
theorem wp_append_src {P : Program} (w : World) {o : Oper} {a : Act} {K : Act → World → Prop} {Q : Exit → Act → World → Prop} (s x : Operand) (t : TypeId)
    (ho : o.op = .call { callee := .builtin .append, args := #[s, x], argTypes := #[t, t] })
    (base : Nat) (e : TypeId) (i : TypeInfo) (z : Value) (size bytes : Nat) (ht : P.underlying t = some (.slice e)) (hi : P.info? e = some i) (hz : i.zero = some z)
    (hsize : i.size = size) (hby : i.bytes = bytes) (hzs : z.cells.size = size) (hsz : 0 < size)
    (v : Value) (n : Nat) (xs : List Value) (hs : a.eval s = v) (hown : w.ownsRow base e size v n xs)
    (sv : Value) (m : Nat) (news : List Value) (hx : a.eval x = sv) (hsrc : Src w sv m size news)
    (h63 : n + m ≤ maxLen) (hbytes : (n + m) * bytes ≤ 140737488355328) (hbase : base ≤ w.heap.size)
    (h : ∀ v' w', w'.ownsRow base e size v' (n + m) (xs ++ news) → w.grownBy w' v.ownBlock → (∀ k, v'.ownBlock = some k → v.ownBlock = some k ∨ w.heap.size ≤ k) → K (a.put o.dst v') w') : o.wp P a w K Q := by
  rcases hsrc with ⟨rfl, rfl, rfl⟩ | ⟨ad, c, rfl, hl, hc, h1⟩
  · have hrun := run_append_owned_none (P := P) (w := w) base t o.type e i size ht hi v n xs hown
    unfold Oper.wp
    simp [execOp, ho, resolve, invoke, builtin, hs, hx, hrun, Result.andThen]
    exact h v w (by simpa using hown) (World.grownBy.refl w _) (fun k hk => .inl hk)
  · subst hsize
    subst hby
    have hh := hown
    have h63' : n + m ≤ 9223372036854775807 := by simp only [maxLen] at h63; omega
    -- where it goes: the same block, or a new one
    obtain ⟨v', w', hr, h2, h3, h4⟩ := run_append_own (P := P) w base t o.type e i z i.size i.bytes ht hi hz rfl rfl hzs hsz v n xs hown ad m c news hl hc h1 h63 hbytes hbase
    have hfresh : ∀ k, v'.ownBlock = some k → v.ownBlock = some k ∨ w.heap.size ≤ k := by
      intro k hk
      by_cases hkl : k < w.heap.size
      · refine .inl ?_
        rcases hown.2 with ⟨rfl, rfl⟩ | ⟨g, cap, cur, rfl, hbg, hg, hnc, hcm, hcs, htake⟩
        · exfalso
          by_cases hm : m = 0
          · rw [h4.2 ⟨rfl, hm⟩] at hk; simp [Value.ownBlock] at hk
          · have hr2 := run_append_nil (P := P) w t o.type e i z ht hi hz ad m c news hl hc (by omega) (by omega) (by have hb := hbytes; simp only [Nat.zero_add] at hb; omega)
            rw [hr2] at hr
            cases hr
            simp [Value.ownBlock] at hk
            omega
        · by_cases hroom : n + m ≤ cap
          · have hfit : n * i.size + news.length ≤ cur.size := by rw [hl, hcs, ← Nat.add_mul]; exact Nat.mul_le_mul_right _ hroom
            have hr2 := run_append_room (P := P) w t o.type e i ht hi g n cap cur hg ad m c news hl hc h1 hroom hfit
            rw [hr2] at hr
            cases hr
            exact hk
          · exfalso
            have holds : ∀ j u, xs[j]? = some u → w.cell? ((⟨g, 0, none⟩ : Addr).add j) = some u := hh.cells (g := g) rfl
            have hr2 := run_append_grow (P := P) w t o.type e i z ht hi hz ⟨g, 0, none⟩ n cap xs hh.1 holds ad m c news hl hc (by omega) (by omega) (growslice_fits (by omega) hbytes)
            rw [hr2] at hr
            cases hr
            simp [Value.ownBlock] at hk
            omega
      · exact .inr (by omega)
    unfold Oper.wp execOp
    simp only [ho, resolve, invoke, builtin, Sem.run_bind, Sem.run_pure, Result.andThen_ok, List.map_toArray, List.map_cons, List.map_nil, hs, hx, hr]
    exact h v' w' h2 h3 hfresh

end Go.Proofs.Ytpijnpapmdnceaa

namespace Go.Proofs.Ytpijnpapmdnceaa
open Go Go.ChangeShapes Go.WideShapes Go.Deep Go.RowKit

/-- v is a list of n elements, each of the numbers f i 0, f i 1, .. of these kinds. -/
def ArgRows (w : World) (v : Value) (ks : List IntKind) (n : Nat) (f : Nat → Nat → Int) : Prop :=
  n ≤ maxLen ∧ ((n = 0 ∧ ∃ a c, v = .slice a 0 c) ∨ ∃ g off c, v = .slice (some ⟨g, off, none⟩) n c ∧ g < w.heap.size ∧
    ∀ i, i < n → ∀ j k, ks[j]? = some k → w.cell? ⟨g, off + (i * ks.length + j), none⟩ = some (.int k (f i j)) ∧ (Lit.int k (f i j)).wf = true)

theorem add_off {g off j : Nat} : (⟨g, off, none⟩ : Addr).add j = ⟨g, off + j, none⟩ := by
  unfold Addr.add; split <;> simp_all

theorem ArgRows.form {w : World} {v : Value} {ks : List IntKind} {n : Nat} {f : Nat → Nat → Int} (h : ArgRows w v ks n f) : ∃ a c, v = .slice a n c := by
  obtain ⟨_, ⟨rfl, a, c, rfl⟩ | ⟨g, off, c, rfl, _⟩⟩ := h
  · exact ⟨a, c, rfl⟩
  · exact ⟨_, c, rfl⟩

section
variable {H : Type} {enc : TypeId × Value → H} {P : Program} {w : World} {base : Nat} {spare : Nat → Bool} {held : Bool}

theorem cell_spot {w : World} {a : Addr} {v : Value} (h : w.cell? a = some v) : a.spot = none := by
  unfold World.cell? at h
  split at h
  · split at h
    · cases h
    · rename_i hs; simpa using hs
  · cases h

theorem arg_structs {t e : TypeId} {fs : Array Field} {v : Value} {d : DataW H} {ps : List MemPlace} (ks : List IntKind) (ht : P.underlying t = some (.slice e)) (he : P.underlying e = some (.struct fs))
    (hone : oneCellFields P fs = true) (hC : P.cellsOf e = fs.size) (hks : ks.length = fs.size) (hpos : 0 < fs.size) (hk : ∀ (j : Nat) (k : IntKind), ks[j]? = some k → ∃ f : Field, fs[j]? = some f ∧ P.underlying f.type = some (.int k))
    (hv : ∃ a l c, v = .slice a l c) (h : DataW.Trod enc P w base spare held t v d ps) : ∃ n f, ArgRows w v ks n f := by
  obtain ⟨a0, l0, c0, rfl⟩ := hv
  obtain ⟨fuel, h⟩ := h
  rcases open_slice ht h with ⟨h0, _⟩ | ⟨a, len, cap, m, n, D, Pl, hcs, hb, hl, hm, hmm, hx, hi⟩
  · simp [Value.cells] at h0
    obtain ⟨rfl, rfl, rfl⟩ := h0
    exact ⟨0, fun _ _ => 0, Nat.zero_le _, .inl ⟨rfl, none, 0, rfl⟩⟩
  · simp [Value.cells] at hcs
    obtain ⟨rfl, rfl, rfl⟩ := hcs
    have hlm : l0 ≤ m := by rw [hmm]; split <;> omega
    have each : ∀ i, i < l0 → ∃ g : Nat → Int, ∀ j k, ks[j]? = some k → w.cell? (a.add (i * ks.length + j)) = some (.int k (g j)) ∧ (Lit.int k (g j)).wf = true := by
      intro i hil
      obtain ⟨cs', hc, ht'⟩ := hi i (by omega)
      rw [hC] at hc
      obtain ⟨ys, n', hn', hy, hlen, hyl, hf⟩ := DataW.trod_struct he ht'
      obtain ⟨_, hcl, hat⟩ := World.cells?_some hc
      have one : ∀ j, ∃ x : Int, ∀ k, ks[j]? = some k → w.cell? (a.add (i * ks.length + j)) = some (.int k x) ∧ (Lit.int k x).wf = true := by
        intro j
        by_cases hj : j < ks.length
        · obtain ⟨f, hfj, hfk⟩ := hk j ks[j] (List.getElem?_eq_getElem hj)
          obtain ⟨ho, hk1⟩ := hone_of hone j f hfj
          have h1 := hf j f hfj
          rw [ho, hk1] at h1
          have hone' : (cs'.drop j).take 1 = [cs'[j]'(by omega)] := by
            rw [List.drop_eq_getElem_cons (by omega)]
            rfl
          rw [hone'] at h1
          have hys : ys[j]? = some (ys[j]'(by omega)) := List.getElem?_eq_getElem (by omega)
          obtain ⟨x, hx1, _, hw⟩ := DataW.trod_int hfk (h1.trans hys)
          refine ⟨x, fun k hkk => ?_⟩
          rw [List.getElem?_eq_getElem hj] at hkk
          cases hkk
          refine ⟨?_, hw⟩
          have hcell := hat j (by omega)
          rw [← hC, Go.Deep.add_add, List.getElem?_eq_getElem (show j < cs'.length by omega)] at hcell
          rw [hks, ← hC, hcell]
          exact hx1 |> fun h => by simpa using h
        · exact ⟨0, fun k hkk => by rw [List.getElem?_eq_none (by omega)] at hkk; cases hkk⟩
      exact ⟨fun j => Classical.choose (one j), fun j k hkk => Classical.choose_spec (one j) k hkk⟩
    by_cases h0 : l0 = 0
    · subst h0
      exact ⟨0, fun _ _ => 0, Nat.zero_le _, .inl ⟨rfl, some a, c0, rfl⟩⟩
    · have F : ∃ f : Nat → Nat → Int, ∀ i, i < l0 → ∀ j k, ks[j]? = some k → w.cell? (a.add (i * ks.length + j)) = some (.int k (f i j)) ∧ (Lit.int k (f i j)).wf = true := by
        obtain ⟨f, hf⟩ := choose_lt each
        exact ⟨f, hf⟩
      obtain ⟨f, hf⟩ := F
      have hc0 := (hf 0 (by omega) 0 ks[0] (List.getElem?_eq_getElem (by omega))).1
      have hsp : a.spot = none := by
        have := hc0
        rw [show 0 * ks.length + 0 = 0 by omega] at this
        unfold Addr.add at this
        exact cell_spot (by simpa using this)
      obtain ⟨g, off, sp⟩ := a
      cases hsp
      refine ⟨l0, f, Nat.le_trans hl hm, .inr ⟨g, off, c0, rfl, ?_, fun i hil j k hj => ?_⟩⟩
      · have := World.block_lt_of_cell? _ _ hc0
        rw [add_off] at this
        exact this
      · have := hf i hil j k hj
        rw [add_off] at this
        exact this

theorem arg_ints {t e : TypeId} {v : Value} {d : DataW H} {ps : List MemPlace} (k : IntKind) (ht : P.underlying t = some (.slice e)) (he : P.underlying e = some (.int k)) (hC : P.cellsOf e = 1)
    (hv : ∃ a l c, v = .slice a l c) (h : DataW.Trod enc P w base spare held t v d ps) : ∃ n f, ArgRows w v [k] n f := by
  obtain ⟨a0, l0, c0, rfl⟩ := hv
  obtain ⟨fuel, h⟩ := h
  rcases open_ints ht he hC h with ⟨h0, _⟩ | ⟨a, len, cap, zs, hcs, hb, hl, hm, hz, _, hcell, hwz⟩
  · simp [Value.cells] at h0
    obtain ⟨rfl, rfl, rfl⟩ := h0
    exact ⟨0, fun _ _ => 0, Nat.zero_le _, .inl ⟨rfl, none, 0, rfl⟩⟩
  · simp [Value.cells] at hcs
    obtain ⟨rfl, rfl, rfl⟩ := hcs
    have hlz : l0 ≤ zs.length := by rw [hz]; split <;> omega
    by_cases h0 : l0 = 0
    · subst h0
      exact ⟨0, fun _ _ => 0, Nat.zero_le _, .inl ⟨rfl, some a, c0, rfl⟩⟩
    · have hc0 := hcell 0 (by omega)
      have hsp : a.spot = none := by
        unfold Addr.add at hc0
        exact cell_spot (by simpa using hc0)
      obtain ⟨g, off, sp⟩ := a
      cases hsp
      refine ⟨l0, fun i _ => zs.getD i 0, Nat.le_trans hl hm, .inr ⟨g, off, c0, rfl, ?_, fun i hil j k' hj => ?_⟩⟩
      · have := World.block_lt_of_cell? _ _ hc0
        rw [add_off] at this
        exact this
      · have hj0 : j = 0 := by
          rcases j with _ | j
          · rfl
          · simp at hj
        subst hj0
        simp at hj
        subst hj
        have := hcell i (by omega)
        rw [add_off] at this
        refine ⟨by simpa using this, hwz _ ?_⟩
        show zs.getD i 0 ∈ zs
        have hi' : i < zs.length := by omega
        have e : zs.getD i 0 = zs[i] := by simp [hi']
        rw [e]
        exact List.getElem_mem hi'
end

end Go.Proofs.Ytpijnpapmdnceaa

namespace Go.Proofs.Ytpijnpapmdnceaa
open Go

/-- No call, nothing deferred, nothing sent. -/
def tame (o : Oper) : Bool :=
  match o.op with
  | .move _ | .assign _ | .pick _ _ _ | .load _ _ | .store _ _ _ | .binOp _ _ _ _ _ | .unOp _ _ _ | .fieldAddr _ _ _ | .indexAddr _ _ _ | .alloc _ | .box _ _ => true
  | _ => false

theorem run_val {P : Program} {s : Sem Value} {w w' : World} {n : Next} (h : (do pure (Next.value (← s)) : Sem Next).run P w = .ok n w') : ∃ x, n = .value x := by
  simp only [Sem.run_bind] at h
  generalize s.run P w = r at h
  cases r with
  | ok x w1 => simp only [Sem.run_pure, Result.andThen_ok, Result.ok.injEq] at h; exact ⟨x, h.1.symm⟩
  | halt x w1 => simp at h

theorem run_unit {P : Program} {s : Sem Unit} {w w' : World} {n : Next} (h : (do s; pure Next.skip : Sem Next).run P w = .ok n w') : n = .skip := by
  simp only [Sem.run_bind] at h
  generalize s.run P w = r at h
  cases r with
  | ok x w1 => simp only [Sem.run_pure, Result.andThen_ok, Result.ok.injEq] at h; exact h.1.symm
  | halt x w1 => simp at h

theorem tame_run {P : Program} {o : Oper} {ρ : Operand → Value} {w w' : World} {n : Next} (ht : tame o = true) (h : (execOp ρ o).run P w = .ok n w') : (∃ x, n = .value x) ∨ n = .skip := by
  unfold tame at ht
  unfold execOp at h
  cases ho : o.op <;> rw [ho] at ht h <;> first | (cases ht; done) | skip
  all_goals first
    | exact .inl (run_val h)
    | exact .inr (run_unit h)
    | (simp only [Sem.run_pure, Result.ok.injEq] at h; exact .inl ⟨_, h.1.symm⟩)
    | skip
  · simp only [Sem.run_bind] at h
    rename_i c a b
    generalize (asBool (ρ c)).run P w = r at h
    cases r with
    | ok x w1 => cases x <;> simp only [Result.andThen_ok, Sem.run_pure, Bool.false_eq_true, if_false, if_true, Result.ok.injEq] at h <;> exact .inl ⟨_, h.1.symm⟩
    | halt x w1 => simp at h

theorem tame_about {P : Program} {o : Oper} {ρ : Operand → Value} {w : World} (ht : tame o = true) : o.about P w ρ = none := by
  unfold tame at ht
  unfold Oper.about
  cases ho : o.op <;> rw [ho] at ht <;> first | (cases ht; done) | rfl

theorem tame_defer {o : Oper} (ht : tame o = true) : ∀ c, o.op ≠ .defer c := fun c e => by
  unfold tame at ht
  rw [e] at ht
  cases ht

section
variable {F : Fence} {m : Nat} {P : Program} {ops : Array Oper} {N : Act → World → Prop} {Q : Exit → Act → World → Prop}

theorem tame_wpIn {o : Oper} (ht : tame o = true) {a : Act} {w : World} {K K' : Act → World → Prop} (hK : ∀ a w, K a w → K' a w) (h : o.wp P a w K (OnlyN N)) : o.wpIn F m P a w K' Q := by
  refine ⟨(fun f hf => by rw [tame_about ht] at hf; cases hf), ?_⟩
  rw [Oper.semAt_eq _ _ _ (tame_defer ht)]
  unfold Oper.wp at h
  cases hr : (execOp a.eval o).run P w with
  | ok n w' =>
    rw [hr] at h
    rcases tame_run ht hr with ⟨x, rfl⟩ | rfl
    · exact hK _ _ h
    · exact hK _ _ h
  | halt x w' =>
    rw [hr] at h
    cases x <;> simp only [Oper.upon] at h <;> exact h.elim

theorem anyIn_of_any (ht : ops.all tame = true) (hN : ∀ a w, N a w → Q .normal a w) : ∀ (fuel : Nat) (listed : Array Bool) (a : Act) (w : World), wpAny P .any ops (OnlyN N) fuel listed a w → wpAnyIn F m P .any ops Q fuel listed a w
  | 0, _, _, _, h => ⟨h.1, hN _ _ h.2⟩
  | fuel + 1, listed, a, w, h => ⟨fun hr => hN _ _ (h.1 hr), fun i hi => by
      have h1 := h.2 i hi
      unfold wpOp at h1
      unfold wpOpIn
      obtain ⟨_, o, ho, _⟩ := mem_ready.1 hi
      simp only [ho] at h1 ⊢
      have hto : tame o = true := by
        rw [Array.all_eq_true] at ht
        obtain ⟨hlt, he⟩ := Array.getElem?_eq_some_iff.1 ho
        have := ht i hlt
        rwa [he] at this
      split at h1
      · rename_i hw
        rw [if_pos hw]
        rcases h1 with h1 | ⟨_, h1⟩
        · exact tame_wpIn hto (fun a' w' hk => anyIn_of_any ht hN fuel _ a' w' hk) h1
        · exact absurd h1 OnlyN.not_out
      · rename_i hw
        rw [if_neg hw]
        exact ⟨(fun f hf => by rw [tame_about hto] at hf; cases hf), anyIn_of_any ht hN fuel _ _ _ h1⟩⟩

/-- **A drawn region in its text's order, in a round.** -/
theorem wpIn_region_text {id : Nat} {a : Act} {w : World} {l : List Oper} (cs : List Nat) (S : World → Prop) (hm : P.follows .mixedOrders = true) (ht : l.toArray.all tame = true) (hB : textB l.toArray cs = true)
    (hS : S w.drew) (h : wpT P l.toArray S (Q .normal) cs l a w.drew) : (Code.region id l.toArray true).wpIn F m P Q a w := by
  simp only [textB, Bool.and_eq_true, beq_iff_eq] at hB
  refine wpIn_region_any hm (anyIn_of_any (N := Q .normal) ht (fun _ _ h => h) _ _ _ _ (wpAny_of_T (S := S) (cs := cs) _ _ _ _ hS ?_))
  have := wpAnyT_text (P := P) (S := S) (N := Q .normal) (cs := cs) hB.1.1 l 0 (Array.replicate l.toArray.size false) a w.drew (by simp) hS
    (fun j oj _ hl => by exfalso; simp [Array.getD] at hl) (by simpa using hB.2) hB.1.2 (by simpa using h)
  simpa using this
end
end Go.Proofs.Ytpijnpapmdnceaa

namespace Go.Proofs.Ytpijnpapmdnceaa
open Go

/-- Nothing is deferred. -/
def mild (o : Oper) : Bool :=
  match o.op with
  | .defer _ => false
  | _ => true

theorem mild_defer {o : Oper} (ht : mild o = true) : ∀ c, o.op ≠ .defer c := fun c e => by
  unfold mild at ht
  rw [e] at ht
  cases ht

section
variable {m : Nat} {r : Option Nat} {P : Program} {ops : Array Oper} {N : Act → World → Prop} {Q : Exit → Act → World → Prop}

theorem mild_wpIn {o : Oper} (ht : mild o = true) {a : Act} {w : World} {K K' : Act → World → Prop} (hK : ∀ a w, K a w → K' a w) (h : o.wp P a w K (OnlyN N)) : o.wpIn ({ Fence.wide with round := r }) m P a w K' Q := by
  refine ⟨fun _ _ => trivial, ?_⟩
  rw [Oper.semAt_eq _ _ _ (mild_defer ht)]
  unfold Oper.wp at h
  cases hr : (execOp a.eval o).run P w with
  | ok n w' =>
    rw [hr] at h
    cases n with
    | value v => exact hK _ _ h
    | skip => exact hK _ _ h
    | defer d => exact hK _ _ h
    | enter f args =>
      rw [Oper.upon_enter] at h
      refine ⟨(fun he => by cases he), ?_⟩
      have h2 := (callsIn_wide (n := m - 1)).2 h
      refine CallsIn.mono (F := { Fence.wide with round := r }) h2 ?_
      rintro (v | ch | _) w2 hq
      · exact hK _ _ hq
      · exact hq.elim
      · exact (OnlyN.not_out hq).elim
    | row row args =>
      rw [Oper.upon_row] at h
      refine ⟨(fun he => by cases he), fun c cs _ => ?_⟩
      obtain ⟨v, w2, hq, hs⟩ := h c cs
      exact ⟨v, w2, hK _ _ hq, stepsIn_wide.2 hs⟩
    | _ => exact h.elim
  | halt x w' =>
    rw [hr] at h
    cases x <;> simp only [Oper.upon] at h <;> exact h.elim

theorem anyIn_of_any2 (ht : ops.all mild = true) (hN : ∀ a w, N a w → Q .normal a w) : ∀ (fuel : Nat) (listed : Array Bool) (a : Act) (w : World), wpAny P .any ops (OnlyN N) fuel listed a w → wpAnyIn ({ Fence.wide with round := r }) m P .any ops Q fuel listed a w
  | 0, _, _, _, h => ⟨h.1, hN _ _ h.2⟩
  | fuel + 1, listed, a, w, h => ⟨fun hr => hN _ _ (h.1 hr), fun i hi => by
      have h1 := h.2 i hi
      unfold wpOp at h1
      unfold wpOpIn
      obtain ⟨_, o, ho, _⟩ := mem_ready.1 hi
      simp only [ho] at h1 ⊢
      have hto : mild o = true := by
        rw [Array.all_eq_true] at ht
        obtain ⟨hlt, he⟩ := Array.getElem?_eq_some_iff.1 ho
        have := ht i hlt
        rwa [he] at this
      split at h1
      · rename_i hw
        rw [if_pos hw]
        rcases h1 with h1 | ⟨_, h1⟩
        · exact mild_wpIn hto (fun a' w' hk => anyIn_of_any2 ht hN fuel _ a' w' hk) h1
        · exact absurd h1 OnlyN.not_out
      · rename_i hw
        rw [if_neg hw]
        exact ⟨(fun _ _ => trivial), anyIn_of_any2 ht hN fuel _ _ _ h1⟩⟩

/-- An operation by a law of the plain walk. -/
theorem wpListIn_mild {o : Oper} {rest : List Oper} {a : Act} {w : World} (hg : o.guard = none) (ht : mild o = true)
    (h : ∀ K : Act → World → Prop, (∀ a w, wpListIn { Fence.wide with round := r } m P ops Q rest a w → K a w) → o.wp P a w K (OnlyN fun _ _ => True)) : wpListIn { Fence.wide with round := r } m P ops Q (o :: rest) a w :=
  wpListIn_plain hg fun K hK => mild_wpIn ht (fun _ _ h => h) (h K hK)

/-- **A drawn region in its text's order, in a round, calls among it.** -/
theorem wpIn_region_text2 {id : Nat} {a : Act} {w : World} {l : List Oper} (cs : List Nat) (S : World → Prop) (hm : P.follows .mixedOrders = true) (ht : l.toArray.all mild = true) (hB : textB l.toArray cs = true)
    (hS : S w.drew) (h : wpT P l.toArray S (Q .normal) cs l a w.drew) : (Code.region id l.toArray true).wpIn ({ Fence.wide with round := r }) m P Q a w := by
  simp only [textB, Bool.and_eq_true, beq_iff_eq] at hB
  refine wpIn_region_any hm (anyIn_of_any2 (N := Q .normal) ht (fun _ _ h => h) _ _ _ _ (wpAny_of_T (S := S) (cs := cs) _ _ _ _ hS ?_))
  have := wpAnyT_text (P := P) (S := S) (N := Q .normal) (cs := cs) hB.1.1 l 0 (Array.replicate l.toArray.size false) a w.drew (by simp) hS
    (fun j oj _ hl => by exfalso; simp [Array.getD] at hl) (by simpa using hB.2) hB.1.2 (by simpa using h)
  simpa using this
end
end Go.Proofs.Ytpijnpapmdnceaa

namespace Go.Proofs.Ytpijnpapmdnceaa
open Go

section
variable {P : Program} {ops : Array Oper} {S S' : World → Prop} {N : Act → World → Prop}

theorem wp_of_value {o : Oper} {v : Value} {a : Act} {w : World} {K : Act → World → Prop} {Q : Exit → Act → World → Prop} (h : (execOp a.eval o).run P w = .ok (.value v) w) (hK : K (a.put o.dst v) w) : o.wp P a w K Q := by
  unfold Oper.wp
  rw [h]
  exact hK

theorem T_stage {cs cs2 : List Nat} (hSS : ∀ W, S' W → S W) (h3 : ∀ j, cs.getD j 2 ≠ 3) : ∀ (fuel : Nat) (listed : Array Bool) (a : Act) (w : World), S' w → (∀ j, j < ops.size → listed.getD j true = false → cs2.getD j 2 = 2) →
    wpAnyT P ops S' N cs fuel listed a w → wpAnyT P ops S N cs2 fuel listed a w
  | 0, _, _, _, _, _, h => h
  | fuel + 1, listed, a, w, hS, h2, h => ⟨h.1, fun i hi => by
      have h1 := h.2 i hi
      obtain ⟨hun, oi, hoi, _⟩ := mem_ready.1 hi
      have hc := h2 i (Array.getElem?_eq_some_iff.1 hoi).1 hun
      unfold stepAt at h1 ⊢
      simp only [hoi] at h1 ⊢
      rw [if_neg (h3 i)] at h1
      rw [hc, if_neg (by decide)]
      have rest : ∀ a' w', S' w' → wpAnyT P ops S' N cs fuel (listed.setIfInBounds i true) a' w' → wpAnyT P ops S N cs2 fuel (listed.setIfInBounds i true) a' w' := fun a' w' hS' hk =>
        T_stage hSS h3 fuel _ a' w' hS' (fun j hj hl => h2 j hj (by
          by_cases e : i = j
          · subst e; exact hun
          · rwa [getD_set_ne true e] at hl)) hk
      unfold stepC at h1 ⊢
      rw [if_neg (by decide), if_neg (by decide)]
      split at h1
      · obtain ⟨v, hy, hk⟩ := h1
        rcases hy with ⟨hw, hv⟩ | ⟨hw, rfl⟩
        · rw [if_pos hw]
          exact wp_of_value (hv w hS) ⟨hSS _ hS, rest _ _ hS hk⟩
        · rw [if_neg (by rw [hw]; exact Bool.false_ne_true)]
          exact rest _ _ hS hk
      · split at h1
        · obtain ⟨v, hy, hk⟩ := h1
          rcases hy with ⟨hw, hv⟩ | ⟨hw, rfl⟩
          · rw [if_pos hw]
            exact wp_of_value hv ⟨hSS _ hS, rest _ _ hS hk⟩
          · rw [if_neg (by rw [hw]; exact Bool.false_ne_true)]
            exact rest _ _ hS hk
        · split at h1
          · rename_i hw
            rw [if_pos hw]
            exact Oper.wp_mono (fun a' w' hk => ⟨hSS _ hk.1, rest _ _ hk.1 hk.2⟩) h1
          · rename_i hw
            rw [if_neg hw]
            exact rest _ _ hS h1⟩

def allTwo (ops : Array Oper) (cs : List Nat) (listed : Array Bool) : Bool := (List.range ops.size).all fun j => listed.getD j true || cs.getD j 2 == 2

/-- Another S from here on, and other classes: all that is left had class 2. -/
theorem anyX_stage {fuel : Nat} {listed : Array Bool} {a : Act} {w : World} {cs : List Nat} (S' : World → Prop) (cs' : List Nat) (hSS : ∀ W, S' W → S W) (hS' : S' w) (h2 : allTwo ops cs listed = true) (h3 : cs'.contains 3 = false)
    (h : wpAnyX P ops S' N cs' fuel listed a w) : wpAnyX P ops S N cs fuel listed a w := by
  intro _ hC
  refine T_stage hSS (fun j => ?_) fuel listed a w hS' (fun j hj hl => ?_) (h hS' hC)
  · intro e
    have : 3 ∈ cs' := by
      rw [List.getD_eq_getElem?_getD] at e
      cases hq : cs'[j]? with
      | none => rw [hq] at e; cases e
      | some x => rw [hq] at e; obtain rfl : x = 3 := e; exact List.mem_of_getElem? hq
    simp [this] at h3
  · have := List.all_eq_true.1 h2 j (List.mem_range.2 hj)
    rw [hl, Bool.false_or] at this
    exact eq_of_beq this
end
end Go.Proofs.Ytpijnpapmdnceaa
