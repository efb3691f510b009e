/- The plain law of ticks: the slots that count, and the ticks of a cycle. -/
import Derived.WalkKit
namespace Go.Proofs.Ythnocalnlonniaa
open Go

/-- A slot that counts: its place, the tick of the first cycle at which it begins, its domain, its length. -/
structure Ent where
  n : Nat
  at_ : Int
  dom : Int
  len : Int

def ents : Nat → Int → List (Int × Int) → List Ent
  | _, _, [] => []
  | n, f, (d, l) :: s => if 1 ≤ l ∧ l ≤ 16 then ⟨n, f, d, l⟩ :: ents (n + 1) (f + l) s else ents (n + 1) f s

def total (E : List Ent) : Int := (E.map (·.len)).sum
def entsOf (s : List (Int × Int)) : List Ent := ents 0 0 (s.take 16)
def cyc (s : List (Int × Int)) : Int := total (entsOf s)

theorem total_nil : total [] = 0 := rfl
theorem total_cons (e : Ent) (E : List Ent) : total (e :: E) = e.len + total E := by simp [total]
theorem total_mk (n : Nat) (f d l : Int) (E : List Ent) : total (⟨n, f, d, l⟩ :: E) = l + total E := total_cons _ _
theorem total_append (E F : List Ent) : total (E ++ F) = total E + total F := by simp [total]

theorem ents_cons (n : Nat) (f d l : Int) (s : List (Int × Int)) : ents n f ((d, l) :: s) = if 1 ≤ l ∧ l ≤ 16 then ⟨n, f, d, l⟩ :: ents (n + 1) (f + l) s else ents (n + 1) f s := rfl

theorem ents_append : ∀ (s u : List (Int × Int)) (n : Nat) (f : Int), ents n f (s ++ u) = ents n f s ++ ents (n + s.length) (f + total (ents n f s)) u
  | [], u, n, f => by simp [ents, total]
  | (d, l) :: s, u, n, f => by
    rw [List.cons_append, ents_cons, ents_cons]
    split
    · rw [ents_append s u, List.cons_append, total_mk, List.length_cons]
      have e1 : n + 1 + s.length = n + (s.length + 1) := by omega
      have e2 : f + l + total (ents (n + 1) (f + l) s) = f + (l + total (ents (n + 1) (f + l) s)) := by omega
      rw [e1, e2]
    · rw [ents_append s u, List.length_cons]
      have e1 : n + 1 + s.length = n + (s.length + 1) := by omega
      rw [e1]

/-- What is known of each. -/
theorem ents_mem : ∀ (s : List (Int × Int)) (n : Nat) (f : Int) (e : Ent), e ∈ ents n f s → n ≤ e.n ∧ e.n < n + s.length ∧ s[e.n - n]? = some (e.dom, e.len) ∧ 1 ≤ e.len ∧ e.len ≤ 16 ∧ f ≤ e.at_ ∧ e.at_ + e.len ≤ f + total (ents n f s)
  | [], _, _, e, h => by cases h
  | (d, l) :: s, n, f, e, h => by
    rw [ents_cons] at h ⊢
    by_cases hl : 1 ≤ l ∧ l ≤ 16
    · rw [if_pos hl] at h ⊢
      rw [total_mk]
      rcases List.mem_cons.1 h with rfl | h
      · have hp : 0 ≤ total (ents (n + 1) (f + l) s) := by
          clear h
          have : ∀ (s : List (Int × Int)) (n : Nat) (f : Int), 0 ≤ total (ents n f s) := by
            intro s
            induction s with
            | nil => intro n f; exact Int.le_refl 0
            | cons p s ih =>
              intro n f
              obtain ⟨d, l⟩ := p
              rw [ents_cons]
              split
              · rw [total_mk]; have := ih (n + 1) (f + l); omega
              · exact ih _ _
          exact this _ _ _
        simp
        omega
      · obtain ⟨h1, h2, h3, h4, h5, h6, h7⟩ := ents_mem s (n + 1) (f + l) e h
        refine ⟨by omega, by rw [List.length_cons]; omega, ?_, h4, h5, by omega, by omega⟩
        rw [show e.n - n = (e.n - (n + 1)) + 1 by omega, List.getElem?_cons_succ]
        exact h3
    · rw [if_neg hl] at h ⊢
      obtain ⟨h1, h2, h3, h4, h5, h6, h7⟩ := ents_mem s (n + 1) f e h
      refine ⟨by omega, by rw [List.length_cons]; omega, ?_, h4, h5, by omega, by omega⟩
      rw [show e.n - n = (e.n - (n + 1)) + 1 by omega, List.getElem?_cons_succ]
      exact h3

theorem total_nonneg (s : List (Int × Int)) (n : Nat) (f : Int) : 0 ≤ total (ents n f s) ∧ total (ents n f s) ≤ 16 * s.length := by
  induction s generalizing n f with
  | nil => exact ⟨Int.le_refl 0, by simp [ents, total]⟩
  | cons p s ih =>
    obtain ⟨d, l⟩ := p
    rw [ents_cons, List.length_cons]
    split
    · rw [total_mk]; have := ih (n + 1) (f + l); omega
    · have := ih (n + 1) f; omega

theorem cyc_bd (s : List (Int × Int)) : 0 ≤ cyc s ∧ cyc s ≤ 256 := by
  have := total_nonneg (s.take 16) 0 0
  have h : (s.take 16).length ≤ 16 := List.length_take_le _ _
  unfold cyc entsOf
  omega

/-- One behind the other. -/
theorem ents_chain (s : List (Int × Int)) (n : Nat) (f : Int) : (ents n f s).Pairwise fun a b => a.at_ + a.len ≤ b.at_ := by
  induction s generalizing n f with
  | nil => exact List.Pairwise.nil
  | cons p s ih =>
    obtain ⟨d, l⟩ := p
    rw [ents_cons]
    split
    · refine List.Pairwise.cons (fun e he => ?_) (ih _ _)
      have := (ents_mem s (n + 1) (f + l) e he).2.2.2.2.2.1
      exact this
    · exact ih _ _

/-- Each tick has its slot. -/
theorem ents_cover : ∀ (s : List (Int × Int)) (n : Nat) (f k : Int), f ≤ k → k < f + total (ents n f s) → ∃ e ∈ ents n f s, e.at_ ≤ k ∧ k < e.at_ + e.len
  | [], _, f, k, h1, h2 => by simp [ents, total] at h2; omega
  | (d, l) :: s, n, f, k, h1, h2 => by
    rw [ents_cons] at h2 ⊢
    split at h2
    · rename_i hl
      rw [if_pos hl]
      rw [total_mk] at h2
      by_cases hk : k < f + l
      · exact ⟨_, List.mem_cons_self, h1, hk⟩
      · obtain ⟨e, he, h3⟩ := ents_cover s (n + 1) (f + l) k (by omega) (by omega)
        exact ⟨e, List.mem_cons_of_mem _ he, h3⟩
    · rename_i hl
      rw [if_neg hl]
      obtain ⟨e, he, h3⟩ := ents_cover s (n + 1) f k h1 h2
      exact ⟨e, he, h3⟩

theorem chain_split {E : List Ent} (h : E.Pairwise fun a b => a.at_ + a.len ≤ b.at_) {e : Ent} (he : e ∈ E) (hl : ∀ x ∈ E, 1 ≤ x.len) : ∃ A B, E = A ++ e :: B ∧ (∀ b ∈ B, e.at_ + e.len ≤ b.at_) ∧ ∀ a ∈ A, a.at_ + a.len ≤ e.at_ := by
  obtain ⟨A, B, rfl⟩ := List.append_of_mem he
  rw [List.pairwise_append] at h
  obtain ⟨_, h2, h3⟩ := h
  exact ⟨A, B, rfl, fun b hb => (List.pairwise_cons.1 h2).1 b hb, fun a ha => h3 a ha e List.mem_cons_self⟩

theorem chain_uniq {E : List Ent} (h : E.Pairwise fun a b => a.at_ + a.len ≤ b.at_) {e g : Ent} (he : e ∈ E) (hg : g ∈ E) (hl : ∀ x ∈ E, 1 ≤ x.len) {k : Int} (h1 : e.at_ ≤ k ∧ k < e.at_ + e.len) (h2 : g.at_ ≤ k ∧ k < g.at_ + g.len) : e = g := by
  obtain ⟨A, B, hE, hB, hA⟩ := chain_split h he hl
  rw [hE] at hg
  rcases List.mem_append.1 hg with hg | hg
  · have := hA g hg; omega
  · rcases List.mem_cons.1 hg with hg | hg
    · exact hg.symm
    · have := hB g hg; omega

/-! What the code reckons -/

def heldOf (t : Int) : Int := max 0 (min t 4611686018427387904)
theorem heldOf_bd (t : Int) : 0 ≤ heldOf t ∧ heldOf t ≤ 4611686018427387904 := by unfold heldOf; omega
theorem heldOf_in {t : Int} (h1 : 0 ≤ t) (h2 : t ≤ 4611686018427387904) : heldOf t = t := by unfold heldOf; omega

def endOf (E : List Ent) : Int := E.foldl (fun _ e => e.at_ + e.len) 0
def atF (t r : Int) (E : List Ent) : Int × Int := E.foldl (fun acc e => if e.at_ ≤ r then ((e.n : Int), t - r + e.at_) else acc) (0, 0)
def cand (c t r : Int) (e : Ent) : Int := if t - r + e.at_ < t then t - r + e.at_ + c else t - r + e.at_
def nxF (dom c t r : Int) (E : List Ent) : Int := E.foldl (fun best e => if e.dom = dom ∧ cand c t r e ≤ 4611686018427387904 ∧ (best < 0 ∨ cand c t r e < best) then cand c t r e else best) (-1)

theorem endOf_snoc (E : List Ent) (e : Ent) : endOf (E ++ [e]) = e.at_ + e.len := by simp [endOf]
theorem atF_snoc (t r : Int) (E : List Ent) (e : Ent) : atF t r (E ++ [e]) = if e.at_ ≤ r then ((e.n : Int), t - r + e.at_) else atF t r E := by unfold atF; rw [List.foldl_append]; rfl
theorem nxF_snoc (dom c t r : Int) (E : List Ent) (e : Ent) : nxF dom c t r (E ++ [e]) = if e.dom = dom ∧ cand c t r e ≤ 4611686018427387904 ∧ (nxF dom c t r E < 0 ∨ cand c t r e < nxF dom c t r E) then cand c t r e else nxF dom c t r E := by unfold nxF; rw [List.foldl_append]; rfl

theorem endOf_ents (s : List (Int × Int)) : endOf (entsOf s) = cyc s := by
  unfold cyc entsOf
  have : ∀ (s : List (Int × Int)) (n : Nat) (f a : Int), (ents n f s).foldl (fun _ e => e.at_ + e.len) a = if ents n f s = [] then a else f + total (ents n f s) := by
    intro s
    induction s with
    | nil => intro n f a; simp [ents]
    | cons p s ih =>
      intro n f a
      obtain ⟨d, l⟩ := p
      rw [ents_cons]
      split
      · rw [List.foldl_cons, ih, total_mk, if_neg (show ¬ (⟨n, f, d, l⟩ :: ents (n + 1) (f + l) s) = [] by simp)]
        dsimp only
        split
        · rename_i h; rw [h]; simp [total]
        · omega
      · exact ih _ _ _
  unfold endOf
  rw [this]
  split
  · rename_i h; rw [h]; rfl
  · omega

/-- The slot of a tick. -/
def atOf (s : List (Int × Int)) (t : Int) : Int × Int := if cyc s = 0 then (-1, 0) else atF (heldOf t) (heldOf t % cyc s) (entsOf s)

theorem entsOf_mem {s : List (Int × Int)} {e : Ent} (h : e ∈ entsOf s) : e.n < s.length ∧ e.n < 16 ∧ s[e.n]? = some (e.dom, e.len) ∧ 1 ≤ e.len ∧ e.len ≤ 16 ∧ 0 ≤ e.at_ ∧ e.at_ + e.len ≤ cyc s := by
  obtain ⟨_, h2, h3, h4, h5, h6, h7⟩ := ents_mem _ _ _ e h
  have hl : (s.take 16).length = min 16 s.length := List.length_take
  refine ⟨by omega, by omega, ?_, h4, h5, h6, by unfold cyc entsOf; omega⟩
  rw [Nat.sub_zero, List.getElem?_take_of_lt (by omega)] at h3
  exact h3

theorem atF_is (s : List (Int × Int)) (t r : Int) (hr : 0 ≤ r) (hc : r < cyc s) : ∃ e ∈ entsOf s, e.at_ ≤ r ∧ r < e.at_ + e.len ∧ atF t r (entsOf s) = ((e.n : Int), t - r + e.at_) := by
  obtain ⟨e, he, h1, h2⟩ := ents_cover (s.take 16) 0 0 r hr (by unfold cyc entsOf at hc; omega)
  refine ⟨e, he, h1, h2, ?_⟩
  obtain ⟨A, B, hE, hB, _⟩ := chain_split (ents_chain (s.take 16) 0 0) he (fun x hx => (entsOf_mem (s := s) hx).2.2.2.1)
  unfold entsOf
  rw [hE]
  unfold atF
  rw [List.foldl_append, List.foldl_cons, if_pos h1]
  have : ∀ (B : List Ent) (p : Int × Int), (∀ b ∈ B, r < b.at_) → B.foldl (fun acc e => if e.at_ ≤ r then ((e.n : Int), t - r + e.at_) else acc) p = p := by
    intro B
    induction B with
    | nil => intro p _; rfl
    | cons b B ih =>
      intro p h
      rw [List.foldl_cons, if_neg (by have := h b List.mem_cons_self; omega)]
      exact ih p fun x hx => h x (List.mem_cons_of_mem _ hx)
  exact this B _ fun b hb => by have := hB b hb; omega

theorem atOf_is (s : List (Int × Int)) (t : Int) (hc : cyc s ≠ 0) : ∃ e ∈ entsOf s, e.at_ ≤ heldOf t % cyc s ∧ heldOf t % cyc s < e.at_ + e.len ∧ atOf s t = ((e.n : Int), heldOf t - heldOf t % cyc s + e.at_) := by
  have hb := cyc_bd s
  have h1 := Int.emod_nonneg (heldOf t) hc
  have h2 := Int.emod_lt_of_pos (heldOf t) (show 0 < cyc s by omega)
  obtain ⟨e, he, a, b, h⟩ := atF_is s (heldOf t) _ h1 h2
  exact ⟨e, he, a, b, by unfold atOf; rw [if_neg hc]; exact h⟩

/-- When a slot of a domain begins next. -/
def nextOf (s : List (Int × Int)) (dom t : Int) : Int × Bool :=
  if cyc s = 0 then (0, false) else
    let b := nxF dom (cyc s) (heldOf t) (heldOf t % cyc s) (entsOf s)
    (max b 0, decide (b ≥ 0))

theorem snoc_induct {p : List Ent → Prop} (h0 : p []) (h1 : ∀ E e, p E → p (E ++ [e])) (E : List Ent) : p E := by
  have : ∀ n (E : List Ent), E.length = n → p E := by
    intro n
    induction n with
    | zero => intro E h; rw [List.eq_nil_of_length_eq_zero h]; exact h0
    | succ n ih =>
      intro E h
      have hne : E ≠ [] := fun e => by rw [e] at h; cases h
      rw [← List.dropLast_concat_getLast hne]
      exact h1 _ _ (ih _ (by rw [List.length_dropLast]; omega))
  exact this _ E rfl

def NxIs (dom c t r : Int) (E : List Ent) : Prop :=
    (nxF dom c t r E = -1 ∧ ∀ e ∈ E, e.dom = dom → 4611686018427387904 < cand c t r e) ∨
    (0 ≤ nxF dom c t r E ∧ ∃ e ∈ E, e.dom = dom ∧ cand c t r e = nxF dom c t r E ∧ cand c t r e ≤ 4611686018427387904 ∧ ∀ g ∈ E, g.dom = dom → cand c t r e ≤ cand c t r g)

theorem nxF_is (dom c t r : Int) (E : List Ent) (h0 : ∀ e ∈ E, 0 ≤ cand c t r e) : NxIs dom c t r E := by
  revert h0
  refine snoc_induct (p := fun E => (∀ e ∈ E, 0 ≤ cand c t r e) → NxIs dom c t r E) ?_ ?_ E
  · intro _; exact .inl ⟨rfl, fun e h => by cases h⟩
  · intro E e ih h0
    unfold NxIs at ih ⊢
    rw [nxF_snoc]
    have ih := ih fun x hx => h0 x (List.mem_append_left _ hx)
    have he := h0 e (by simp)
    by_cases hcond : e.dom = dom ∧ cand c t r e ≤ 4611686018427387904 ∧ (nxF dom c t r E < 0 ∨ cand c t r e < nxF dom c t r E)
    · rw [if_pos hcond]
      obtain ⟨c1, c2, c3⟩ := hcond
      refine .inr ⟨he, e, by simp, c1, rfl, c2, fun g hg hd => ?_⟩
      rcases List.mem_append.1 hg with hg | hg
      · rcases ih with ⟨i1, i2⟩ | ⟨i1, x, hx, _, i3, i4, i5⟩
        · have := i2 g hg hd; omega
        · have := i5 g hg hd; omega
      · simp only [List.mem_singleton] at hg; subst hg; exact Int.le_refl _
    · rw [if_neg hcond]
      rcases ih with ⟨i1, i2⟩ | ⟨i1, x, hx, i2, i3, i4, i5⟩
      · refine .inl ⟨i1, fun g hg hd => ?_⟩
        rcases List.mem_append.1 hg with hg | hg
        · exact i2 g hg hd
        · simp only [List.mem_singleton] at hg; subst hg
          exact Int.not_le.1 fun hle => hcond ⟨hd, hle, .inl (by omega)⟩
      · refine .inr ⟨i1, x, List.mem_append_left _ hx, i2, i3, i4, fun g hg hd => ?_⟩
        rcases List.mem_append.1 hg with hg | hg
        · exact i5 g hg hd
        · simp only [List.mem_singleton] at hg; subst hg
          exact Int.not_lt.1 fun hlt => hcond ⟨hd, by omega, .inr (by omega)⟩

/-- A slot's next beginning, in ticks from now. -/
theorem cand_is {c t r : Int} {e : Ent} (hr0 : 0 ≤ r) (hrc : r < c) (h0 : 0 ≤ e.at_) (h1 : e.at_ < c) : ∃ m : Nat, (m : Int) < c ∧ cand c t r e = t + m ∧ (r + m) % c = e.at_ := by
  unfold cand
  by_cases h : t - r + e.at_ < t
  · rw [if_pos h]
    refine ⟨(e.at_ - r + c).toNat, by omega, by omega, ?_⟩
    rw [show r + ((e.at_ - r + c).toNat : Int) = e.at_ + c by omega, Int.add_emod_right, Int.emod_eq_of_lt h0 h1]
  · rw [if_neg h]
    refine ⟨(e.at_ - r).toNat, by omega, by omega, ?_⟩
    rw [show r + ((e.at_ - r).toNat : Int) = e.at_ by omega, Int.emod_eq_of_lt h0 h1]

theorem wrap_uniq {c r : Int} {m n : Nat} (hr0 : 0 ≤ r) (hrc : r < c) (hm : (m : Int) < c) (hn : (n : Int) < c) (h : (r + m) % c = (r + n) % c) : m = n := by
  have e1 : (r + m) % c = if r + m < c then r + m else r + m - c := by
    split
    · exact Int.emod_eq_of_lt (by omega) (by omega)
    · rw [← Int.sub_emod_right, Int.emod_eq_of_lt (by omega) (by omega)]
  have e2 : (r + n) % c = if r + n < c then r + n else r + n - c := by
    split
    · exact Int.emod_eq_of_lt (by omega) (by omega)
    · rw [← Int.sub_emod_right, Int.emod_eq_of_lt (by omega) (by omega)]
  rw [e1, e2] at h
  split at h <;> split at h <;> omega

/-! What the document reckons -/

def ownOf (E : List Ent) : List (Int × Bool) := E.flatMap fun e => (List.range e.len.toNat).map fun j => ((e.n : Int), j == 0)

theorem ownOf_append (E F : List Ent) : ownOf (E ++ F) = ownOf E ++ ownOf F := by simp [ownOf]
theorem ownOf_length {E : List Ent} (h : ∀ e ∈ E, 1 ≤ e.len) : ((ownOf E).length : Int) = total E := by
  induction E with
  | nil => rfl
  | cons e E ih =>
    have h1 := h e List.mem_cons_self
    have ih := ih fun x hx => h x (List.mem_cons_of_mem _ hx)
    rw [total_cons, ← ih]
    simp [ownOf]
    omega

theorem own_get : ∀ (s : List (Int × Int)) (n : Nat) (f : Int) (k : Nat), k < (ownOf (ents n f s)).length → ∃ e ∈ ents n f s, e.at_ ≤ f + k ∧ f + k < e.at_ + e.len ∧ (ownOf (ents n f s))[k]? = some ((e.n : Int), decide (f + k = e.at_))
  | [], _, _, k, h => by simp [ents, ownOf] at h
  | (d, l) :: s, n, f, k, h => by
    rw [ents_cons] at h ⊢
    by_cases hl : 1 ≤ l ∧ l ≤ 16
    · rw [if_pos hl] at h ⊢
      have e0 : ownOf (⟨n, f, d, l⟩ :: ents (n + 1) (f + l) s) = ((List.range l.toNat).map fun j => ((n : Int), j == 0)) ++ ownOf (ents (n + 1) (f + l) s) := rfl
      rw [e0] at h ⊢
      have hlen : ((List.range l.toNat).map fun j => ((n : Int), j == 0)).length = l.toNat := by simp
      by_cases hk : k < l.toNat
      · refine ⟨_, List.mem_cons_self, by dsimp only; omega, by dsimp only; omega, ?_⟩
        rw [List.getElem?_append_left (by rw [hlen]; exact hk), List.getElem?_map, List.getElem?_range hk]
        show some ((n : Int), k == 0) = some ((n : Int), decide (f + (k : Int) = f))
        have : (k == 0) = decide (f + (k : Int) = f) := by
          by_cases h0 : k = 0
          · subst h0; simp
          · rw [(by simp [h0] : (k == 0) = false)]; exact (decide_eq_false (by omega)).symm
        rw [this]
      · rw [List.length_append, hlen] at h
        obtain ⟨e, he, h1, h2, h3⟩ := own_get s (n + 1) (f + l) (k - l.toNat) (by omega)
        refine ⟨e, List.mem_cons_of_mem _ he, by omega, by omega, ?_⟩
        rw [List.getElem?_append_right (by rw [hlen]; omega), hlen, h3]
        have : f + l + ((k - l.toNat : Nat) : Int) = f + k := by omega
        rw [this]
    · rw [if_neg hl] at h ⊢
      exact own_get s (n + 1) f k h

/-- The tick k of a cycle: whose it is. -/
theorem own_is (s : List (Int × Int)) (k : Nat) (hk : (k : Int) < cyc s) : ∃ e ∈ entsOf s, e.at_ ≤ k ∧ (k : Int) < e.at_ + e.len ∧ (ownOf (entsOf s))[k]? = some ((e.n : Int), decide ((k : Int) = e.at_)) := by
  have hl := ownOf_length (E := entsOf s) fun e he => (entsOf_mem he).2.2.2.1
  obtain ⟨e, he, h1, h2, h3⟩ := own_get (s.take 16) 0 0 k (by unfold cyc at hk; unfold entsOf at hl hk; omega)
  refine ⟨e, he, by omega, by omega, ?_⟩
  unfold entsOf
  rw [h3]
  simp
end Go.Proofs.Ythnocalnlonniaa
