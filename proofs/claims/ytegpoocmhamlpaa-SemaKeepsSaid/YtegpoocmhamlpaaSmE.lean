/- The plain law of SemaOrder. -/
import Derived.Test.YtegpoocmhamlpaaSmD
import Derived.Test.YtegpoocmhamlpaaArg
namespace Go.Proofs.Ytegpoocmhamlpaa
open Go Go.RowKit

theorem u8_bd (n : Int) (h : (Lit.int .u8 n).wf = true) : 0 ≤ n ∧ n ≤ 255 := by
  simp only [Lit.wf, Bool.and_eq_true, decide_eq_true_eq] at h
  exact ⟨Int.le_trans (by decide) h.1, Int.le_trans h.2 (by decide)⟩

theorem arg_u8s {w : World} {v : Value} {n : Nat} {f : Nat → Nat → Int} (h : ArgRows w v [.u8] n f) (hn : 0 < n) : ∃ g off c, v = .slice (some ⟨g, off, none⟩) n c ∧ g < w.heap.size ∧ n ≤ maxLen ∧
    ∀ k, k < n → w.cell? ⟨g, off + k, none⟩ = some (.int .u8 (f k 0)) ∧ (Lit.int .u8 (f k 0)).wf = true := by
  obtain ⟨hm, ⟨h0, _⟩ | ⟨g, off, c, hv, hg, hc⟩⟩ := h
  · omega
  · refine ⟨g, off, c, hv, hg, hm, fun k hk => ⟨?_, ?_⟩⟩
    · simpa using (hc k hk 0 .u8 rfl).1
    · exact (hc k hk 0 .u8 rfl).2

/-- Who waits from the p-th on, of k. -/
def pairs (nd : Nat → Int) (p k : Nat) : List (Int × Int) := (List.range' p (k - p)).map fun (i : Nat) => ((i : Int) + 1, nd i)
def sm (nd : Nat → Int) : Nat → Int
  | 0 => 0
  | p + 1 => sm nd p + nd p

theorem pairs_cons (nd : Nat → Int) {p k : Nat} (h : p < k) : pairs nd p k = ((p : Int) + 1, nd p) :: pairs nd (p + 1) k := by
  unfold pairs
  rw [show k - p = (k - (p + 1)) + 1 by omega, List.range'_succ]; rfl
theorem pairs_end (nd : Nat → Int) (k : Nat) : pairs nd k k = [] := by simp [pairs]
theorem pairs_snoc (nd : Nat → Int) (k : Nat) : pairs nd 0 k ++ [((k : Int) + 1, nd k)] = pairs nd 0 (k + 1) := by
  unfold pairs
  rw [Nat.sub_zero, Nat.sub_zero, List.range'_concat, List.map_append]; simp
theorem pairs_length (nd : Nat → Int) (p k : Nat) : (pairs nd p k).length = k - p := by simp [pairs]
theorem pairs_mem {nd : Nat → Int} {p k : Nat} {x : Int × Int} (h : x ∈ pairs nd p k) : ∃ i, p ≤ i ∧ i < k ∧ x = ((i : Int) + 1, nd i) := by
  unfold pairs at h
  rw [List.mem_map] at h
  obtain ⟨i, hi, rfl⟩ := h
  rw [List.mem_range'_1] at hi
  exact ⟨i, hi.1, by omega, rfl⟩
theorem run_cons (f : Int) (m : Nat) : run f (m + 1) = f :: run (f + 1) m := by
  unfold run
  rw [List.range_succ_eq_map, List.map_cons, List.map_map]
  simp only [Int.natCast_zero, Int.add_zero, List.cons.injEq, true_and]
  refine List.map_congr_left fun i _ => ?_
  simp only [Function.comp, Nat.succ_eq_add_one]
  omega
theorem run_nth (f : Int) (m i : Nat) (h : i < m) : nth (run f m) i = f + i := by simp [nth, run, h]

theorem srv_pairs (nd : Nat → Int) (k : Nat) : ∀ (d p : Nat) (f : Int), p + d = k → 0 ≤ f → ∃ m, p + m ≤ k ∧ srv f (pairs nd p k) = (run ((p : Int) + 1) m, f - (sm nd (p + m) - sm nd p), pairs nd (p + m) k) ∧
    0 ≤ f - (sm nd (p + m) - sm nd p) ∧ (p + m = k ∨ nd (p + m) > f - (sm nd (p + m) - sm nd p))
  | 0, p, f, h, h0 => by
    obtain rfl : p = k := by omega
    refine ⟨0, by omega, ?_, by simp; omega, .inl rfl⟩
    rw [pairs_end]
    simp [srv, run, pairs_end]
  | d + 1, p, f, h, h0 => by
    rw [pairs_cons nd (by omega)]
    by_cases hp : nd p ≤ f
    · obtain ⟨m, h1, h2, h3, h4⟩ := srv_pairs nd k d (p + 1) (f - nd p) (by omega) (by omega)
      have e : sm nd (p + 1) = sm nd p + nd p := rfl
      have e2 : p + 1 + m = p + (m + 1) := by omega
      rw [e2, e] at h2 h3 h4
      have e3 : f - nd p - (sm nd (p + (m + 1)) - (sm nd p + nd p)) = f - (sm nd (p + (m + 1)) - sm nd p) := by omega
      rw [e3] at h2 h3 h4
      refine ⟨m + 1, by omega, ?_, h3, by rcases h4 with h | h; exact .inl (by omega); exact .inr h⟩
      rw [srv_cons_yes hp, run_cons]
      dsimp only
      rw [h2]
      rfl
    · refine ⟨0, by omega, ?_, by simp; omega, .inr (by simp; omega)⟩
      have e := pairs_cons nd (p := p) (k := k) (by omega)
      rw [srv_cons_no hp, ← e]
      simp [run]

theorem sm_bd (nd : Nat → Int) (N : Int) (h : ∀ i, 1 ≤ nd i ∧ nd i ≤ N) : ∀ p : Nat, (p : Int) ≤ sm nd p ∧ sm nd p ≤ p * N
  | 0 => by simp [sm]
  | p + 1 => by
    have := sm_bd nd N h p
    have h2 := h p
    have e : ((p + 1 : Nat) : Int) * N = p * N + N := by rw [Int.natCast_add, Int.add_mul]; simp
    rw [e]
    simp only [sm]
    omega

theorem sm_mono (nd : Nat → Int) (N : Int) (h : ∀ i, 1 ≤ nd i ∧ nd i ≤ N) (p : Nat) : ∀ m : Nat, sm nd p ≤ sm nd (p + m)
  | 0 => Int.le_refl _
  | m + 1 => by
    have := sm_mono nd N h p m
    have h2 := (h (p + m)).1
    show sm nd p ≤ sm nd (p + m) + nd (p + m)
    omega

theorem order_good (nd : Nat → Int) (N o : Int) (p k : Nat) (h1 : 1 ≤ N) (h2 : N ≤ 16) (h3 : 0 ≤ o) (h4 : o ≤ N) (h : ∀ i, 1 ≤ nd i ∧ nd i ≤ N) : SGood ⟨N, N - o, pairs nd p k⟩ :=
  ⟨h1, h2, by show 0 ≤ N - o; omega, by show N - o ≤ N; omega, fun x hx => by
    obtain ⟨i, _, _, rfl⟩ := pairs_mem hx
    exact ⟨by show 1 ≤ (i : Int) + 1; omega, (h i).1, (h i).2⟩⟩

theorem order_first (nd : Nat → Int) (N : Int) (h1 : 1 ≤ N) : maq ⟨N, N, []⟩ 99 N = (0, ⟨N, N - N, pairs nd 0 0⟩) := by
  have e : mtr ⟨N, N, []⟩ 99 N = (0, ⟨N, N - N, []⟩) := by
    unfold mtr
    rw [if_neg (by show ¬ ((99 : Int) < 1 ∨ N < 1 ∨ N > N); omega), if_neg (by simp [SS.who]), if_neg (by simp)]
  unfold maq
  rw [e, if_neg (by simp), pairs_end]

theorem order_wait (nd : Nat → Int) (N : Int) (k : Nat) (h : ∀ i, 1 ≤ nd i ∧ nd i ≤ N) : maq ⟨N, N - N, pairs nd 0 k⟩ (1 + k) (nd k) = (14, ⟨N, N - N, pairs nd 0 (k + 1)⟩) := by
  have hk := h k
  have e : mtr ⟨N, N - N, pairs nd 0 k⟩ (1 + k) (nd k) = (12, ⟨N, N - N, pairs nd 0 k⟩) := by
    unfold mtr
    rw [if_neg (by dsimp only; omega), if_neg, if_pos (.inr (by show nd k > N - N; omega))]
    intro hm
    simp only [SS.who, List.mem_map] at hm
    obtain ⟨x, hx, he⟩ := hm
    obtain ⟨i, _, hi, rfl⟩ := pairs_mem hx
    dsimp only at he
    omega
  unfold maq
  rw [e, if_pos rfl, Int.add_comm 1 (k : Int), pairs_snoc]

theorem order_rel (nd : Nat → Int) (N o : Int) (p k : Nat) (h1 : 1 ≤ N) (ho : 1 ≤ o) (hN : o ≤ N) (hp : p ≤ k) : ∃ m, p + m ≤ k ∧
    mrl ⟨N, N - o, pairs nd p k⟩ 1 = (run ((p : Int) + 1) m, 0, ⟨N, N - (o - 1 + (sm nd (p + m) - sm nd p)), pairs nd (p + m) k⟩) ∧ o - 1 + (sm nd (p + m) - sm nd p) ≤ N ∧ (p + m = k ∨ nd (p + m) > N - (o - 1 + (sm nd (p + m) - sm nd p))) := by
  obtain ⟨m, h2, h3, h4, h5⟩ := srv_pairs nd k (k - p) p (N - o + 1) (by omega) (by omega)
  have e : N - o + 1 - (sm nd (p + m) - sm nd p) = N - (o - 1 + (sm nd (p + m) - sm nd p)) := by omega
  rw [e] at h3 h4 h5
  refine ⟨m, h2, ?_, by omega, h5⟩
  unfold mrl
  rw [if_neg (by dsimp only; omega), if_neg (by dsimp only; omega)]
  dsimp only
  rw [h3]
end Go.Proofs.Ytegpoocmhamlpaa
