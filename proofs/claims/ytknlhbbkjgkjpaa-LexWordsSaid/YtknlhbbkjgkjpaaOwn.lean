/- A row of the call's own, and what is appended to it. -/
import Derived.Test.YtknlhbbkjgkjpaaFrm
import Derived.WalkKit
namespace Go.Proofs.Ytknlhbbkjgkjpaa
open Go Go.RowKit

theorem owns_form {w : World} {B e s : Nat} {v : Value} {n : Nat} {xs : List Value} (h : w.ownsRow B e s v n xs) : ∃ a c, v = .slice a n c := by
  obtain ⟨_, ⟨rfl, rfl⟩ | ⟨g, cap, cur, rfl, _⟩⟩ := h
  · exact ⟨none, 0, rfl⟩
  · exact ⟨_, _, rfl⟩

theorem owns_block {w w' : World} {B e s : Nat} {v : Value} {n : Nat} {xs : List Value} (h : w.ownsRow B e s v n xs) (hb : ∀ k, v.ownBlock = some k → w'.heap[k]? = w.heap[k]?) : w'.ownsRow B e s v n xs := by
  obtain ⟨h1, h2 | ⟨g, cap, cur, rfl, hb', hg, r⟩⟩ := h
  · exact ⟨h1, .inl h2⟩
  · exact ⟨h1, .inr ⟨g, cap, cur, rfl, hb', by rw [hb g rfl]; exact hg, r⟩⟩

theorem owns_keep {F : Nat → Prop} {w w' : World} {B e s : Nat} {v : Value} {n : Nat} {xs : List Value} (h : w.ownsRow B e s v n xs) (hK : Keep F w w') (hF : ∀ k, v.ownBlock = some k → ¬ F k) : w'.ownsRow B e s v n xs :=
  owns_block h fun k hk => hK.block k (h.lt k hk).2 (hF k hk)

/-- A source: nil, or cells that can be read. -/
def Src (w : World) (sv : Value) (m size : Nat) (news : List Value) : Prop :=
  (sv = .slice none 0 0 ∧ m = 0 ∧ news = []) ∨ ∃ ad c, sv = .slice (some ad) m c ∧ news.length = m * size ∧ (∀ j u, news[j]? = some u → w.cell? (ad.add j) = some u) ∧ ∀ u ∈ news, u.oneCell' = true

theorem Src.keep {F : Nat → Prop} {w w' : World} {sv : Value} {m size : Nat} {news : List Value} (h : Src w sv m size news) (hK : Keep F w w') (hF : ∀ k, sv.ownBlock = some k → ¬ F k) : Src w' sv m size news := by
  rcases h with h | ⟨ad, c, rfl, hl, hc, h1⟩
  · exact .inl h
  · refine .inr ⟨ad, c, rfl, hl, fun j u hu => ?_, h1⟩
    have := hc j u hu
    have hb : (ad.add j).block = ad.block := by unfold Addr.add; split <;> rfl
    rw [hK.cell (by exact World.block_lt_of_cell? _ _ this) (by rw [hb]; exact hF _ rfl)]
    exact this

theorem owns_src {w : World} {B e s : Nat} {v : Value} {n : Nat} {xs : List Value} (h : w.ownsRow B e s v n xs) (h1 : ∀ u ∈ xs, u.oneCell' = true) : Src w v n s xs := by
  have hc := fun g (hg : v.ownBlock = some g) => h.cells hg
  obtain ⟨hl, ⟨rfl, rfl⟩ | ⟨g, cap, cur, rfl, _⟩⟩ := h
  · exact .inl ⟨rfl, rfl, List.eq_nil_of_length_eq_zero (by simpa using hl)⟩
  · exact .inr ⟨_, _, rfl, hl, hc g rfl, h1⟩

/-- 'append(s, x...)', s the call's own. -/
theorem wp_append_src {P : Program} (w : World) {o : Oper} {a : Act} {K : Act → World → Prop} {Q : Exit → Act → World → Prop} (s x : Operand) (t : TypeId)
    (ho : o.op = .call { callee := .builtin .append, args := #[s, x], argTypes := #[t, t] })
    (base : Nat) (e : TypeId) (i : TypeInfo) (z : Value) (size bytes : Nat) (ht : P.underlying t = some (.slice e)) (hi : P.info? e = some i) (hz : i.zero = some z)
    (hsize : i.size = size) (hby : i.bytes = bytes) (hzs : z.cells.size = size) (hsz : 0 < size)
    (v : Value) (n : Nat) (xs : List Value) (hs : a.eval s = v) (hown : w.ownsRow base e size v n xs)
    (sv : Value) (m : Nat) (news : List Value) (hx : a.eval x = sv) (hsrc : Src w sv m size news)
    (h63 : n + m ≤ maxLen) (hbytes : (n + m) * bytes ≤ 140737488355328) (hbase : base ≤ w.heap.size)
    (h : ∀ v' w', w'.ownsRow base e size v' (n + m) (xs ++ news) → w.grownBy w' v.ownBlock → (∀ k, v'.ownBlock = some k → v.ownBlock = some k ∨ w.heap.size ≤ k) → K (a.put o.dst v') w') : o.wp P a w K Q := by
  rcases hsrc with ⟨rfl, rfl, rfl⟩ | ⟨ad, c, rfl, hl, hc, h1⟩
  · have hrun := run_append_owned_none (P := P) (w := w) base t o.type e i size ht hi v n xs hown
    unfold Oper.wp
    simp [execOp, ho, resolve, invoke, builtin, hs, hx, hrun, Result.andThen]
    exact h v w (by simpa using hown) (World.grownBy.refl w _) (fun k hk => .inl hk)
  · subst hsize
    subst hby
    have hh := hown
    have h63' : n + m ≤ 9223372036854775807 := by simp only [maxLen] at h63; omega
    -- where it goes: the same block, or a new one
    obtain ⟨v', w', hr, h2, h3, h4⟩ := run_append_own (P := P) w base t o.type e i z i.size i.bytes ht hi hz rfl rfl hzs hsz v n xs hown ad m c news hl hc h1 h63 hbytes hbase
    have hfresh : ∀ k, v'.ownBlock = some k → v.ownBlock = some k ∨ w.heap.size ≤ k := by
      intro k hk
      by_cases hkl : k < w.heap.size
      · refine .inl ?_
        rcases hown.2 with ⟨rfl, rfl⟩ | ⟨g, cap, cur, rfl, hbg, hg, hnc, hcm, hcs, htake⟩
        · exfalso
          by_cases hm : m = 0
          · rw [h4.2 ⟨rfl, hm⟩] at hk; simp [Value.ownBlock] at hk
          · have hr2 := run_append_nil (P := P) w t o.type e i z ht hi hz ad m c news hl hc (by omega) (by omega) (by have hb := hbytes; simp only [Nat.zero_add] at hb; omega)
            rw [hr2] at hr
            cases hr
            simp [Value.ownBlock] at hk
            omega
        · by_cases hroom : n + m ≤ cap
          · have hfit : n * i.size + news.length ≤ cur.size := by rw [hl, hcs, ← Nat.add_mul]; exact Nat.mul_le_mul_right _ hroom
            have hr2 := run_append_room (P := P) w t o.type e i ht hi g n cap cur hg ad m c news hl hc h1 hroom hfit
            rw [hr2] at hr
            cases hr
            exact hk
          · exfalso
            have holds : ∀ j u, xs[j]? = some u → w.cell? ((⟨g, 0, none⟩ : Addr).add j) = some u := hh.cells (g := g) rfl
            have hr2 := run_append_grow (P := P) w t o.type e i z ht hi hz ⟨g, 0, none⟩ n cap xs hh.1 holds ad m c news hl hc (by omega) (by omega) (growslice_fits (by omega) hbytes)
            rw [hr2] at hr
            cases hr
            simp [Value.ownBlock] at hk
            omega
      · exact .inr (by omega)
    unfold Oper.wp execOp
    simp only [ho, resolve, invoke, builtin, Sem.run_bind, Sem.run_pure, Result.andThen_ok, List.map_toArray, List.map_cons, List.map_nil, hs, hx, hr]
    exact h v' w' h2 h3 hfresh

end Go.Proofs.Ytknlhbbkjgkjpaa
