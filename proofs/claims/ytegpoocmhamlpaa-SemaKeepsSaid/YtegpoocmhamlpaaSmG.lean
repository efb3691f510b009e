/- The plain law of SemaKeeps. -/
import Derived.Test.YtegpoocmhamlpaaSmE
namespace Go.Proofs.Ytegpoocmhamlpaa
open Go Go.RowKit

/-- Where t is last in the first k; -1: nowhere. -/
def lst (l : List Int) (t : Int) : Nat → Int
  | 0 => -1
  | k + 1 => if nth l k = t then (k : Int) else lst l t k

def Has (who many : List Int) (t n : Int) : Prop := ∃ i : Nat, i < who.length ∧ lst who t who.length = i ∧ nth many i = n

theorem nth_app {l : List Int} {x : Int} {i : Nat} (h : i < l.length) : nth (l ++ [x]) i = nth l i := by
  unfold nth
  rw [List.getD_eq_getElem?_getD, List.getElem?_append_left h, List.getD_eq_getElem?_getD]
theorem nth_last (l : List Int) (x : Int) : nth (l ++ [x]) l.length = x := by simp [nth]

theorem lst_app (l : List Int) (x t : Int) : ∀ k, k ≤ l.length → lst (l ++ [x]) t k = lst l t k
  | 0, _ => rfl
  | k + 1, h => by
    simp only [lst]
    rw [nth_app (by omega), lst_app l x t k (by omega)]

theorem Has.new {who many : List Int} (h : who.length = many.length) (t n : Int) : Has (who ++ [t]) (many ++ [n]) t n := by
  refine ⟨who.length, by simp, ?_, by rw [h]; exact nth_last _ _⟩
  rw [List.length_append]
  show lst _ _ (who.length + 1) = _
  simp only [lst]
  rw [nth_last, if_pos rfl]

theorem Has.old {who many : List Int} {t n : Int} (h : who.length = many.length) (x m : Int) (hx : x ≠ t) (H : Has who many t n) : Has (who ++ [x]) (many ++ [m]) t n := by
  obtain ⟨i, h1, h2, h3⟩ := H
  refine ⟨i, by simp; omega, ?_, by rw [nth_app (by omega)]; exact h3⟩
  rw [List.length_append]
  show lst _ _ (who.length + 1) = _
  simp only [lst]
  rw [nth_last, if_neg hx, lst_app _ _ _ _ (Nat.le_refl _), h2]

def sumP : List (Int × Int) → Int
  | [] => 0
  | p :: l => p.2 + sumP l

theorem srv_split : ∀ (l : List (Int × Int)) (f : Int), ∃ P, l = P ++ (srv f l).2.2 ∧ (srv f l).1 = P.map (·.1) ∧ (srv f l).2.1 = f - sumP P ∧ (0 ≤ f → 0 ≤ f - sumP P)
  | [], f => ⟨[], rfl, rfl, by simp [srv, sumP], by simp [sumP]⟩
  | p :: l, f => by
    by_cases hp : p.2 ≤ f
    · obtain ⟨P, h1, h2, h3, h4⟩ := srv_split l (f - p.2)
      rw [srv_cons_yes hp]
      refine ⟨p :: P, by dsimp only; rw [List.cons_append, ← h1], by dsimp only; rw [h2]; rfl, by dsimp only; rw [h3, sumP]; omega, fun h => by have := h4 (by omega); simp only [sumP]; omega⟩
    · rw [srv_cons_no hp]
      exact ⟨[], rfl, rfl, by simp [sumP], by simp [sumP]⟩

structure KInv (S : SS) (who many : List Int) : Prop where
  good : SGood S
  nd : (S.l.map (·.1)).Nodup
  has : ∀ p ∈ S.l, Has who many p.1 p.2

theorem KInv.sub {S : SS} {who many : List Int} (h : KInv S who many) {f : Int} {l : List (Int × Int)} (h0 : 0 ≤ f) (h1 : f ≤ S.size) (hl : List.Sublist l S.l) : KInv { S with free := f, l := l } who many :=
  ⟨⟨h.good.s1, h.good.s16, h0, h1, fun p hp => h.good.l p (hl.subset hp)⟩, h.nd.sublist (hl.map _), fun p hp => h.has p (hl.subset hp)⟩

theorem sumP_nonneg : ∀ (P : List (Int × Int)), (∀ p ∈ P, 1 ≤ p.2) → 0 ≤ sumP P
  | [], _ => Int.le_refl _
  | p :: P, h => by
    have := sumP_nonneg P fun q hq => h q (List.mem_cons_of_mem _ hq)
    have := h p (by simp)
    simp only [sumP]; omega

/-- What is served of l, with f free. -/
theorem KInv.srv {S : SS} {who many : List Int} (h : KInv S who many) {f : Int} {l : List (Int × Int)} (h0 : 0 ≤ f) (h1 : f ≤ S.size) (hl : List.Sublist l S.l) :
    ∃ P, (srv f l).1 = P.map (·.1) ∧ (∀ p ∈ P, Has who many p.1 p.2) ∧ (∀ p ∈ P, 1 ≤ p.2 ∧ p.2 ≤ 16) ∧ (srv f l).2.1 = f - sumP P ∧ KInv { S with free := (srv f l).2.1, l := (srv f l).2.2 } who many ∧ (srv f l).2.2.length ≤ S.l.length ∧ P.length ≤ S.l.length := by
  obtain ⟨P, e1, e2, e3, e4⟩ := srv_split l f
  have hP : ∀ p ∈ P, p ∈ S.l := fun p hp => hl.subset (by rw [e1]; exact List.mem_append_left _ hp)
  have hs : List.Sublist (Go.Proofs.Ytegpoocmhamlpaa.srv f l).2.2 S.l := by
    refine List.Sublist.trans ?_ hl
    conv => rhs; rw [e1]
    exact List.sublist_append_right _ _
  have hp1 : ∀ p ∈ P, 1 ≤ p.2 := fun p hp => (h.good.l p (hP p hp)).2.1
  have hn := sumP_nonneg P hp1
  refine ⟨P, e2, fun p hp => h.has p (hP p hp), fun p hp => ⟨hp1 p hp, Int.le_trans (h.good.l p (hP p hp)).2.2 h.good.s16⟩, e3, h.sub (by rw [e3]; exact e4 h0) (by rw [e3]; omega) hs, hs.length_le, ?_⟩
  have := hl.length_le
  rw [e1, List.length_append] at this
  omega

theorem keeps_drop {S : SS} {who many : List Int} (h : KInv S who many) (t : Int) {o : List Int} {b : Bool} {S' : SS} (hb : mdp S t = (o, b, S')) :
    ∃ P, o = P.map (·.1) ∧ (∀ p ∈ P, Has who many p.1 p.2) ∧ (∀ p ∈ P, 1 ≤ p.2 ∧ p.2 ≤ 16) ∧ S'.free = S.free - sumP P ∧ S'.size = S.size ∧ KInv S' who many ∧ S'.l.length ≤ S.l.length ∧ P.length ≤ S.l.length := by
  unfold mdp at hb
  split at hb
  · cases hb
    obtain ⟨P, e1, e2, e3, e4, e5, e6, e7⟩ := h.srv h.good.f0 h.good.f1 (List.eraseIdx_sublist S.l (S.who.idxOf t))
    exact ⟨P, e1, e2, e3, e4, rfl, e5, e6, e7⟩
  · cases hb
    exact ⟨[], rfl, by simp, by simp, by simp [sumP], rfl, h, Nat.le_refl _, Nat.zero_le _⟩

theorem keeps_rel {S : SS} {who many : List Int} (h : KInv S who many) (n : Int) {o : List Int} {e : Int} {S' : SS} (hb : mrl S n = (o, e, S')) :
    (e = 0 → 1 ≤ n ∧ n ≤ 16) ∧ ∃ P, o = P.map (·.1) ∧ (∀ p ∈ P, Has who many p.1 p.2) ∧ (∀ p ∈ P, 1 ≤ p.2 ∧ p.2 ≤ 16) ∧ S'.free = S.free + (if e = 0 then n else 0) - sumP P ∧ S'.size = S.size ∧ KInv S' who many ∧ S'.l.length ≤ S.l.length ∧ P.length ≤ S.l.length := by
  have none : (1 : Int) = 1 → ∀ e : Int, e ≠ 0 → ∃ P : List (Int × Int), ([] : List Int) = P.map (·.1) ∧ (∀ p ∈ P, Has who many p.1 p.2) ∧ (∀ p ∈ P, 1 ≤ p.2 ∧ p.2 ≤ 16) ∧ S.free = S.free + (if e = 0 then n else 0) - sumP P ∧ S.size = S.size ∧ KInv S who many ∧ S.l.length ≤ S.l.length ∧ P.length ≤ S.l.length := fun _ e he =>
    ⟨[], rfl, by simp, by simp, by rw [if_neg he]; simp [sumP], rfl, h, Nat.le_refl _, Nat.zero_le _⟩
  have g0 := h.good.f0
  have g1 := h.good.s16
  unfold mrl at hb
  split at hb
  · cases hb
    exact ⟨fun e => by omega, none rfl 1 (by decide)⟩
  split at hb
  · cases hb
    exact ⟨fun e => by omega, none rfl 13 (by decide)⟩
  · cases hb
    obtain ⟨P, e1, e2, e3, e4, e5, e6, e7⟩ := h.srv (f := S.free + n) (l := S.l) (by omega) (by omega) (List.Sublist.refl _)
    exact ⟨fun _ => by omega, P, e1, e2, e3, by rw [if_pos rfl]; exact e4, rfl, e5, e6, e7⟩

theorem keeps_acq {S : SS} {who many : List Int} (h : KInv S who many) (hlen : who.length = many.length) (t n : Int) {e : Int} {S' : SS} (hb : maq S t n = (e, S')) :
    (e = 0 → 1 ≤ n ∧ n ≤ 16) ∧ S'.free = S.free - (if e = 0 then n else 0) ∧ S'.size = S.size ∧ S'.l.length ≤ S.l.length + 1 ∧ (e = 14 → KInv S' (who ++ [t]) (many ++ [n])) ∧ (e ≠ 14 → KInv S' who many) := by
  have g1 := h.good.s16
  unfold maq at hb
  by_cases h12 : (mtr S t n).1 = 12
  · rw [if_pos h12] at hb
    cases hb
    unfold mtr at h12
    split at h12
    · cases h12
    rename_i hg
    split at h12
    · cases h12
    rename_i hm
    refine ⟨fun h => by omega, by simp, rfl, by simp, fun _ => ⟨⟨h.good.s1, h.good.s16, h.good.f0, h.good.f1, fun p hp => ?_⟩, ?_, fun p hp => ?_⟩, fun hne => absurd rfl hne⟩
    · rcases List.mem_append.1 hp with hp | hp
      · exact h.good.l p hp
      · obtain rfl := List.mem_singleton.1 hp
        dsimp only
        omega
    · rw [List.map_append, List.nodup_append]
      refine ⟨h.nd, by simp, fun a ha b hb e => ?_⟩
      simp only [List.map_cons, List.map_nil, List.mem_singleton] at hb
      rw [e, hb] at ha
      exact hm ha
    · rcases List.mem_append.1 hp with hp | hp
      · refine (h.has p hp).old hlen t n fun e => hm ?_
        rw [e]
        exact List.mem_map.2 ⟨p, hp, rfl⟩
      · obtain rfl := List.mem_singleton.1 hp
        exact Has.new hlen t n
  · rw [if_neg h12] at hb
    unfold mtr at hb
    split at hb
    · cases hb
      exact ⟨fun h => by omega, by simp, rfl, by omega, fun h => by omega, fun _ => h⟩
    split at hb
    · cases hb
      exact ⟨fun h => by omega, by simp, rfl, by omega, fun h => by omega, fun _ => h⟩
    split at hb
    · rename_i hh
      unfold mtr at h12
      simp_all
    · cases hb
      rename_i h1 _ h3
      have : S.l = [] ∧ n ≤ S.free := by
        refine ⟨Classical.byContradiction fun hc => h3 (.inl hc), Classical.byContradiction fun hc => h3 (.inr (by omega))⟩
      exact ⟨fun _ => by omega, by simp, rfl, by simp, fun h => by omega, fun _ => h.sub (by omega) (by have := h.good.f1; omega) (List.Sublist.refl _)⟩
theorem sumP_take (P : List (Int × Int)) : ∀ k, k < P.length → sumP (P.take (k + 1)) = sumP (P.take k) + (at2 P k).2 := by
  induction P with
  | nil => intro k h; exact absurd h (Nat.not_lt_zero _)
  | cons p P ih =>
    intro k h
    cases k with
    | zero => simp [sumP, at2]
    | succ k =>
      rw [List.take_succ_cons, List.take_succ_cons, sumP, sumP, ih k (by simpa using h)]
      simp only [at2, List.getD_cons_succ]
      omega

theorem sumP_bd : ∀ (P : List (Int × Int)) (k : Nat), (∀ p ∈ P, 1 ≤ p.2 ∧ p.2 ≤ 16) → 0 ≤ sumP (P.take k) ∧ sumP (P.take k) ≤ 16 * P.length
  | [], k, _ => by simp [sumP]
  | p :: P, 0, _ => by simp [sumP]; omega
  | p :: P, k + 1, h => by
    have h1 := sumP_bd P k fun q hq => h q (List.mem_cons_of_mem _ hq)
    have h2 := h p (by simp)
    rw [List.take_succ_cons, sumP, List.length_cons]
    omega

theorem at2_mem {P : List (Int × Int)} {k : Nat} (h : k < P.length) : at2 P k ∈ P := by
  have : at2 P k = P[k] := by simp [at2, h]
  rw [this]; exact List.getElem_mem h

theorem ReadI.at {w : World} {v : Value} {l : List Int} (h : ReadI w v l) {n : Nat} (hn : l.length = n) (hp : 0 < n) : ∃ g off c, v = .slice (some ⟨g, off, none⟩) n c ∧ n ≤ maxLen ∧ ∀ i, i < n → w.cell? ⟨g, off + i, none⟩ = some (.int .i64 (nth l i)) := by
  rcases h with ⟨_, _, _, h0⟩ | ⟨g, off, c, h1, _, h2, h3⟩
  · rw [h0] at hn; simp at hn; omega
  · rw [hn] at h1 h2 h3
    exact ⟨g, off, c, h1, h2, h3⟩

theorem arg_act3 {w : World} {v : Value} {n : Nat} {f : Nat → Nat → Int} (h : ArgRows w v [.u8, .i64, .i64] n f) (hn : 0 < n) : ∃ g off c, v = .slice (some ⟨g, off, none⟩) n c ∧ g < w.heap.size ∧ n ≤ maxLen ∧
    ∀ k, k < n → (w.cell? ⟨g, off + k * 3, none⟩ = some (.int .u8 (f k 0)) ∧ w.cell? ⟨g, off + k * 3 + 1, none⟩ = some (.int .i64 (f k 1)) ∧ w.cell? ⟨g, off + k * 3 + 2, none⟩ = some (.int .i64 (f k 2))) ∧ (Lit.int .u8 (f k 0)).wf = true := by
  obtain ⟨hm, ⟨h0, _⟩ | ⟨g, off, c, hv, hg, hc⟩⟩ := h
  · omega
  · refine ⟨g, off, c, hv, hg, hm, fun k hk => ⟨⟨?_, ?_, ?_⟩, ?_⟩⟩
    · simpa using (hc k hk 0 .u8 rfl).1
    · simpa [Nat.add_assoc] using (hc k hk 1 .i64 rfl).1
    · simpa [Nat.add_assoc] using (hc k hk 2 .i64 rfl).1
    · exact (hc k hk 0 .u8 rfl).2
end Go.Proofs.Ytegpoocmhamlpaa
