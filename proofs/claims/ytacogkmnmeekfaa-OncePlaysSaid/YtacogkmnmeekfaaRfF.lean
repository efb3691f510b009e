/- The reference's Once: Waits, Done. -/
import Derived.Test.YtacogkmnmeekfaaRfE
namespace Go.Proofs.Ytacogkmnmeekfaa
open Go Go.RowKit

section
variable {w0 w : World} {G : Nat → Prop} {b : Nat} {o : Bool} {l : List Int}

/-- What lies behind the first can be read. -/
theorem read_tail {w : World} {g cap : Nat} {x : Int} {l : List Int} (h : OwnI w (.slice (some ⟨g, 0, none⟩) (l.length + 1) cap) (x :: l)) (v : Value) (hv : v = .slice (some (if cap = 1 then ⟨g, 0, none⟩ else ⟨g, 1, none⟩)) l.length (cap - 1)) : ReadI w v l := by
  subst hv
  have hc := own_cap h
  split
  · have : l = [] := List.eq_nil_of_length_eq_zero (by omega)
    subst this
    exact .inl ⟨_, _, rfl, rfl⟩
  · rcases h.reads with ⟨_, _, _, h0⟩ | ⟨g', o', c', h1, h2, h3, h4⟩
    · cases h0
    · simp only [Value.slice.injEq, Option.some.injEq, Addr.mk.injEq] at h1
      obtain ⟨⟨rfl, rfl, _⟩, _, rfl⟩ := h1
      refine .inr ⟨g, 1, _, rfl, h2, by simp at h3; omega, fun i hi => ?_⟩
      have := h4 (i + 1) (by simp; omega)
      rw [Nat.zero_add, Nat.add_comm i 1] at this
      rw [this, Nat.add_comm 1 i]
      simp [nth]

set_option maxRecDepth 10000 in
set_option maxHeartbeats 1000000 in
theorem qwaits_any (h : LNew 51 w0 w G b [.bool o] l) (hn : l.length ≤ 1000) :
    Calls Try.prog 31 #[.pointer (some ⟨b, 0, none⟩)] w fun en w' => ∃ v', en = .returned v' ∧ ReadI w v' l.tail ∧ w = w' := by
  obtain ⟨⟨hGb, hG, v, h, hGv⟩, _⟩ := h
  have h2 : w.cell? ⟨b, 0, none⟩ = some v := h.list
  have H := hid h.own
  obtain ⟨a0, n0, hv⟩ := h.own.form
  have HV := hid hv
  rw [hv] at h2
  clear h hv hGv
  cases l with
  | nil =>
    go_enter Try.func31, Try.ntmps31
    go_wp2
    go_ret
    exact ⟨_, rfl, .inl ⟨_, _, rfl, rfl⟩, rfl⟩
  | cons x l =>
    obtain ⟨g, cap, hvf, hcm⟩ : ∃ g cap, v = .slice (some ⟨g, 0, none⟩) (l.length + 1) cap ∧ cap ≤ maxLen := by
      rcases H.out.2 with ⟨_, h0⟩ | ⟨g, cap, cur, h1, _, _, _, h2, _⟩
      · simp at h0
      · exact ⟨g, cap, h1, h2⟩
    have H2 := H.out
    rw [hvf] at H2
    have hcap := own_cap H2
    have HV2 := HV.out
    rw [hvf] at HV2
    simp only [Value.slice.injEq] at HV2
    obtain ⟨rfl, hz, rfl⟩ := HV2
    clear hz
    have T := hid (read_tail H2)
    have hcm' : cap ≤ 9223372036854775807 := by unfold maxLen at hcm; omega
    have h3 : ((l.length : Int) + 1 == 0) = false := by simp; omega
    have h4 : (1 : Int) ≤ (l.length : Int) + 1 := by omega
    have h5 : (l.length : Int) + 1 ≤ (cap : Int) := by omega
    have h6 : 1 ≤ cap := by omega
    clear hvf H2 hcm H HV
    go_enter Try.func31, Try.ntmps31
    go_wp2
    all_goals
      go_ret
      first
        | exact ⟨_, rfl, T.out _ (by first | rfl | (split <;> rfl) | simp_all), rfl⟩
        | trace_state

set_option maxHeartbeats 1000000 in
theorem qdone_lo (t : Int) (ht : t < 1) (w : World) (b : Nat) :
    Calls Try.prog 28 #[.pointer (some ⟨b, 0, none⟩), .int .i64 t] w fun en w' => en = .returned (.tuple #[.slice none 0 0, .int .i64 1]) ∧ w = w' := by
  go_enter Try.func28, Try.ntmps28
  go_wp2
  go_ret2
  exact ⟨rfl, rfl⟩

set_option maxHeartbeats 1000000 in
theorem qdone_no (t : Int) (ht : 1 ≤ t) (hx : idx l t ≠ 0) (h : LNew 51 w0 w G b [.bool o] l) (hn : l.length ≤ 1000) :
    Calls Try.prog 28 #[.pointer (some ⟨b, 0, none⟩), .int .i64 t] w fun en w' => en = .returned (.tuple #[.slice none 0 0, .int .i64 11]) ∧ w = w' := by
  have hz : (idx l t != 0) = true := by simp [hx]
  clear hx
  go_enter Try.func28, Try.ntmps28
  go_wp2_with fail
  refine (qat_any t h hn).mono ?_
  rintro _ _ ⟨rfl, rfl⟩
  generalize idx l t = x at hz ⊢
  go_wp2
  go_ret2
  exact ⟨rfl, rfl⟩

set_option maxRecDepth 10000 in
set_option maxHeartbeats 1000000 in
theorem qdone_yes (x : Int) (hx : 1 ≤ x) (h : LNew 51 w0 w G b [.bool o] (x :: l)) (hn : l.length < 1000) :
    Calls Try.prog 28 #[.pointer (some ⟨b, 0, none⟩), .int .i64 x] w fun en w' => ∃ v', en = .returned (.tuple #[v', .int .i64 0]) ∧ ReadI w' v' l ∧ StepL 51 w0 G w w' b [.bool true] [] := by
  have HH := hid h
  obtain ⟨⟨hGb, hG, v, h, hGv⟩, _⟩ := h
  have h2 : w.cell? ⟨b, 0, none⟩ = some v := h.list
  have h1 : w.cell? ⟨b, 1, none⟩ = some (.bool o) := h.get 0 rfl
  have hf0 := h.fro 0
  have hf1 := h.fro 1
  have H := hid h
  obtain ⟨g, cap, hvf, hcm⟩ : ∃ g cap, v = .slice (some ⟨g, 0, none⟩) (l.length + 1) cap ∧ cap ≤ maxLen := by
    rcases h.own.2 with ⟨_, h0⟩ | ⟨g, cap, cur, h1, _, _, _, h2, _⟩
    · simp at h0
    · exact ⟨g, cap, h1, h2⟩
  have HV := hid hvf
  rw [hvf] at h2
  have A1 : OblAt 51 (w.setCell ⟨b, 0, none⟩ (.slice none 0 0)) b [.bool o] (.slice none 0 0) [] := OblAt.setList h.row (OwnI.nil _) (by simp [Value.ownBlock])
  have A2 : Hid (OblAt 51 ((w.setCell ⟨b, 0, none⟩ (.slice none 0 0)).setCell ⟨b, 1, none⟩ (.bool true)) b [.bool true] (.slice none 0 0) []) := hid (A1.setPost 0 (.bool true))
  have K2 : Keep (fun k => k = b) w ((w.setCell ⟨b, 0, none⟩ (.slice none 0 0)).setCell ⟨b, 1, none⟩ (.bool true)) := ((Keep.refl _ _).setOwn _).setOwn _
  have O2 := h.own.keep K2 (fun k hk e => h.ne (e ▸ hk))
  rw [hvf] at O2
  have T := hid (read_tail O2)
  have hcap := own_cap O2
  have K3 := hid (K2.mono (G := G) fun k _ e => e ▸ hGb)
  have hcm' : cap ≤ 9223372036854775807 := by unfold maxLen at hcm; omega
  have h4 : (1 : Int) ≤ (l.length : Int) + 1 := by omega
  have h5 : (l.length : Int) + 1 ≤ (cap : Int) := by omega
  have h6 : 1 ≤ cap := by omega
  have ix : Hid (idx (x :: l) x = 0) := hid (by rw [idx_in (by simp)]; simp)
  clear h hvf A1 K2 O2 hcm hGv
  go_enter Try.func28, Try.ntmps28
  go_wp2_with fail
  refine (qat_any x HH.out (by simp; omega)).mono ?_
  rintro _ _ ⟨rfl, rfl⟩
  rw [ix.out]
  go_wp2
  all_goals
    go_ret2
    first
      | exact ⟨_, rfl, T.out _ (by first | rfl | (split <;> rfl) | simp_all), HH.out.on ⟨_, IsObl.of A2.out, fun k hk => hk.elim (fun e => .inl (e ▸ hGb)) (fun e => by simp [Value.ownBlock] at e), K3.out⟩⟩
      | trace_state
end
end Go.Proofs.Ytacogkmnmeekfaa
