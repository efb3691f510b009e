/- The walk of OnceOne. -/
import Derived.Test.YtacogkmnmeekfaaOncB
import Derived.Test.YtacogkmnmeekfaaArg
namespace Go.Proofs.Ytacogkmnmeekfaa
open Go Go.RowKit

theorem beg_cases (d : Int) (o : Bool) (l : List Int) (t : Int) : (∃ e l', beg d o l t = (false, e, d, l') ∧ l'.length ≤ l.length + 1) ∨ (o = false ∧ d = 0 ∧ 1 ≤ t ∧ beg d o l t = (true, 0, t, l)) := by
  unfold beg
  by_cases h1 : t < 1
  · rw [if_pos h1]; exact .inl ⟨_, _, rfl, by omega⟩
  rw [if_neg h1]
  cases o
  case true => exact .inl ⟨_, _, rfl, by omega⟩
  by_cases h2 : d = t ∨ t ∈ l
  · exact .inl ⟨11, l, by simp [h2], by omega⟩
  by_cases h3 : d = 0
  · refine .inr ⟨rfl, h3, by omega, ?_⟩
    rw [if_neg (by decide), if_neg h2, if_pos h3]
  · refine .inl ⟨14, l ++ [t], ?_, by simp⟩
    rw [if_neg (by decide), if_neg h2, if_neg h3]

theorem don_cases (d : Int) (o : Bool) (l : List Int) (t : Int) : (∃ e, (e == 0) = false ∧ don d o l t = (e, d, o, [], l)) ∨ (1 ≤ t ∧ d = t ∧ don d o l t = (0, 0, true, l, [])) := by
  unfold don
  by_cases h1 : t < 1
  · rw [if_pos h1]; exact .inl ⟨1, rfl, rfl⟩
  rw [if_neg h1]
  by_cases h2 : d = t
  · exact .inr ⟨by omega, h2, by simp [h2]⟩
  · exact .inl ⟨11, rfl, by simp [h2]⟩

/-- The cells of an element that came in. -/
theorem arg_act2 {w : World} {v : Value} {n : Nat} {f : Nat → Nat → Int} (h : ArgRows w v [.u8, .i64] n f) (hn : 0 < n) : ∃ g off c, v = .slice (some ⟨g, off, none⟩) n c ∧ g < w.heap.size ∧ n ≤ maxLen ∧
    ∀ k, k < n → (w.cell? ⟨g, off + k * 2, none⟩ = some (.int .u8 (f k 0)) ∧ w.cell? ⟨g, off + k * 2 + 1, none⟩ = some (.int .i64 (f k 1))) ∧ ((Lit.int .u8 (f k 0)).wf = true ∧ (Lit.int .i64 (f k 1)).wf = true) := by
  obtain ⟨hm, ⟨h0, _⟩ | ⟨g, off, c, hv, hg, hc⟩⟩ := h
  · omega
  · refine ⟨g, off, c, hv, hg, hm, fun k hk => ⟨⟨?_, ?_⟩, ?_, ?_⟩⟩
    · simpa using (hc k hk 0 .u8 rfl).1
    · simpa [Nat.add_assoc] using (hc k hk 1 .i64 rfl).1
    · exact (hc k hk 0 .u8 rfl).2
    · exact (hc k hk 1 .i64 rfl).2

set_option maxRecDepth 10000 in
set_option maxHeartbeats 4000000 in
theorem walk_OnceOne (w : World) (v1 : Value) (n1 : Nat) (f1 : Nat → Nat → Int) (w1 : ArgRows w v1 [.u8, .i64] n1 f1) :
    Calls Try.prog 3 #[v1] w fun en w' => en = .returned (.bool true) ∧ Below w.heap.size w w' := by
  obtain ⟨a1, c1, hv1⟩ := w1.form
  have A1 := hid w1
  have V1 := hid hv1
  rw [hv1]
  clear w1 hv1
  go_enter Try.func3, Try.ntmps3
  go_wp2_with fail
  refine (onew_any w).mono ?_
  rintro e W1 ⟨rfl, G1, N1⟩
  have N1 := hid N1
  obtain ⟨b, hb⟩ : ∃ x, w.heap.size = x := ⟨_, rfl⟩
  rw [hb] at N1 ⊢
  go_wp2_with fail
  go_loopw [4, 5, 6] (fun s n i wr => ∃ (k : Nat) (D d dn : Int) (o : Bool) (l : List Int) (G : Nat → Prop), k ≤ n1 ∧ k ≤ 60 ∧ i = .int .i64 k ∧ s = .int .i64 D ∧ n = .int .i64 dn ∧ ((dn = 0 ∧ o = false ∧ d = D) ∨ (dn = 1 ∧ o = true ∧ d = 0)) ∧ l.length ≤ k ∧ ONew 61 w wr G b (opre d o) l) (fun _ _ i _ => 60 - (intOf i).toNat)
  case atStart => exact ⟨0, 0, 0, 0, false, [], G1, Nat.zero_le _, by omega, rfl, rfl, rfl, .inl ⟨rfl, rfl, rfl⟩, Nat.le_refl _, N1.out⟩
  case round =>
    obtain ⟨k, D, d, dn, o, l, G, hk, hk60, rfl, rfl, rfl, hst, hl, hN⟩ := hrel
    have N := hid hN
    clear N1 hN
    by_cases hlt : k < n1 ∧ k < 60
    · obtain ⟨g, off, cc, hv, hg, hmx, hc⟩ := arg_act2 A1.out (by omega)
      have hav : a1 = some ⟨g, off, none⟩ ∧ c1 = cc := by rw [V1.out] at hv; cases hv; exact ⟨rfl, rfl⟩
      obtain ⟨rfl, rfl⟩ := hav
      obtain ⟨⟨k1, k2⟩, u1, u2⟩ := hc k hlt.1
      have k1 := (N.out.2.2.cell (p := ⟨g, off + k * 2, none⟩) hg (fun h => h)).trans k1
      have k2 := (N.out.2.2.cell (p := ⟨g, off + k * 2 + 1, none⟩) hg (fun h => h)).trans k2
      have hlt1 : (k : Int) < (n1 : Int) := by omega
      have hlt2 : (k : Int) < 60 := by omega
      clear hc hv
      generalize f1 k 0 = c at k1 u1
      generalize f1 k 1 = t at k2 u2
      rcases hst with ⟨rfl, rfl, rfl⟩ | ⟨rfl, rfl, rfl⟩
      · -- not done yet
        go_wp2_with fail
        · rcases don_cases d false l t with ⟨e, he, hd⟩ | ⟨ht, rfl, hd⟩
          · refine (odone_any t N.out hd).mono ?_
            rintro en W4 ⟨a4, m4, rfl, -, -, G4, N4, -, -⟩
            have H4 := hid N4
            clear N4 hd k1 k2
            go_wp2_with fail
            refine (oover_any H4.out).mono ?_
            rintro en _ ⟨rfl, rfl⟩
            go_wp2_with fail
            refine (odoer_any H4.out).mono ?_
            rintro en _ ⟨rfl, rfl⟩
            go_wp2_with fail
            go_roundw
            case rel => exact ⟨k + 1, d, d, 0, false, l, G4, by omega, by omega, by go_num, rfl, rfl, .inl ⟨rfl, rfl, rfl⟩, by omega, H4.out⟩
            case measure => simp [intOf]; omega
          · refine (odone_any d N.out hd).mono ?_
            rintro en W4 ⟨a4, m4, rfl, -, -, G4, N4, -, -⟩
            have H4 := hid N4
            clear N4 hd k1 k2
            go_wp2_with fail
            refine (oover_any H4.out).mono ?_
            rintro en _ ⟨rfl, rfl⟩
            go_wp2_with fail
            go_roundw
            case rel => exact ⟨k + 1, d, 0, 1, true, [], G4, by omega, by omega, by go_num, rfl, rfl, .inr ⟨rfl, rfl, rfl⟩, Nat.zero_le _, H4.out⟩
            case measure => simp [intOf]; omega
        · rcases beg_cases d false l t with ⟨e, l', hd, hll⟩ | ⟨-, rfl, ht, hd⟩
          · refine (obegin_any t N.out (by omega) hd).mono ?_
            rintro en W4 ⟨rfl, G4, N4, -, -⟩
            have H4 := hid N4
            clear N4 hd k1 k2
            go_wp2_with fail
            refine (oover_any H4.out).mono ?_
            rintro en _ ⟨rfl, rfl⟩
            go_wp2_with fail
            refine (odoer_any H4.out).mono ?_
            rintro en _ ⟨rfl, rfl⟩
            go_wp2_with fail
            go_roundw
            case rel => exact ⟨k + 1, d, d, 0, false, l', G4, by omega, by omega, by go_num, rfl, rfl, .inl ⟨rfl, rfl, rfl⟩, by omega, H4.out⟩
            case measure => simp [intOf]; omega
          · refine (obegin_any t N.out (by omega) hd).mono ?_
            rintro en W4 ⟨rfl, G4, N4, -, -⟩
            have H4 := hid N4
            clear N4 hd k1 k2
            go_wp2_with fail
            refine (oover_any H4.out).mono ?_
            rintro en _ ⟨rfl, rfl⟩
            go_wp2_with fail
            refine (odoer_any H4.out).mono ?_
            rintro en _ ⟨rfl, rfl⟩
            go_wp2_with fail
            go_roundw
            case rel => exact ⟨k + 1, t, t, 0, false, l, G4, by omega, by omega, by go_num, rfl, rfl, .inl ⟨rfl, rfl, rfl⟩, by omega, H4.out⟩
            case measure => simp [intOf]; omega
      · -- it is done
        go_wp2_with fail
        · rcases don_cases 0 true l t with ⟨e, he, hd⟩ | ⟨ht, rfl, hd⟩
          · refine (odone_any t N.out hd).mono ?_
            rintro en W4 ⟨a4, m4, rfl, -, -, G4, N4, -, -⟩
            have H4 := hid N4
            clear N4 hd k1 k2
            go_wp2_with fail
            refine (oover_any H4.out).mono ?_
            rintro en _ ⟨rfl, rfl⟩
            go_wp2_with fail
            go_roundw
            case rel => exact ⟨k + 1, D, 0, 1, true, l, G4, by omega, by omega, by go_num, rfl, rfl, .inr ⟨rfl, rfl, rfl⟩, by omega, H4.out⟩
            case measure => simp [intOf]; omega
          · exact absurd ht (by decide)
        · rcases beg_cases 0 true l t with ⟨e, l', hd, hll⟩ | ⟨h, -, ht, hd⟩
          · refine (obegin_any t N.out (by omega) hd).mono ?_
            rintro en W4 ⟨rfl, G4, N4, -, -⟩
            have H4 := hid N4
            clear N4 hd k1 k2
            go_wp2_with fail
            refine (oover_any H4.out).mono ?_
            rintro en _ ⟨rfl, rfl⟩
            go_wp2_with fail
            go_roundw
            case rel => exact ⟨k + 1, D, 0, 1, true, l', G4, by omega, by omega, by go_num, rfl, rfl, .inr ⟨rfl, rfl, rfl⟩, by omega, H4.out⟩
            case measure => simp [intOf]; omega
          · cases h
    · have hge : ¬ ((k : Int) < (n1 : Int)) ∨ (k : Int) < (n1 : Int) ∧ ¬ ((k : Int) < 60) := by omega
      rcases hge with hge1 | ⟨hge1, hge2⟩
      all_goals
        go_wp2_with fail
        refine (oawake_any _).mono ?_
        rintro _ W4 ⟨rfl, K4⟩
        have N4 := hid (N.out.keep K4 (fun _ h => h.elim))
        clear K4
        go_wp2
        go_ret
        exact ⟨rfl, N4.out.2.2.below (fun _ h => h.elim) (Nat.le_refl _)⟩
end Go.Proofs.Ytacogkmnmeekfaa
