/- The walks of the reference's Sema: Want whatever is there, Release, Drop. -/
import Derived.Test.YtegpoocmhamlpaaSmK
namespace Go.Proofs.Ytegpoocmhamlpaa
open Go Go.RowKit

section
variable {w0 w : World} {G : Nat → Prop} {b : Nat} {S : SS}

/-- What a Want answers, and what is there then. -/
def mwn (S : SS) (t n : Int) (wait : Bool) : Int × SS := if wait then maq S t n else mtr S t n

set_option maxRecDepth 100000 in
set_option maxHeartbeats 2000000 in
theorem swant_bad (t n : Int) (wait : Bool) (h : MNew 46 w0 w G b (rscs S)) (hbad : t < 1 ∨ n < 1 ∨ n > S.size) :
    Calls Try.prog 44 #[.pointer (some ⟨b, 0, none⟩), .int .i64 t, .int .i64 n, .bool wait] w fun en w' => en = .returned (.int .i64 1) ∧ StepM 46 w0 G w w' b (rscs S) := by
  have HH := hid h
  obtain ⟨-, vs, vW, vM, -, -, -, -, -, -, c0, -, -, -⟩ := h.rs
  clear h
  rcases (by omega : t < 1 ∨ (¬ t < 1 ∧ n < 1) ∨ (¬ t < 1 ∧ ¬ n < 1 ∧ S.size < n)) with h1 | ⟨h1, h2⟩ | ⟨h1, h2, h3⟩
  all_goals
    clear hbad
    go_enter Try.func44, Try.ntmps44
    go_wp2
    go_ret
    exact ⟨rfl, HH.out.stay⟩

set_option maxRecDepth 100000 in
set_option maxHeartbeats 2000000 in
theorem swant_in (t n : Int) (wait : Bool) (h : MNew 46 w0 w G b (rscs S)) (hn : S.l.length ≤ 900) (h1 : ¬ t < 1) (h2 : ¬ n < 1) (h3 : ¬ S.size < n) (hm : t ∈ S.who) :
    Calls Try.prog 44 #[.pointer (some ⟨b, 0, none⟩), .int .i64 t, .int .i64 n, .bool wait] w fun en w' => en = .returned (.int .i64 11) ∧ StepM 46 w0 G w w' b (rscs S) := by
  have HH := hid h
  have IX := hid (idx_in hm)
  have lw : S.who.length ≤ 1000 := by rw [S.who_len]; omega
  obtain ⟨-, vs, vW, vM, -, -, -, -, -, -, c0, -, -, -⟩ := h.rs
  generalize S.who.idxOf t = i at IX
  have hi0 : (0 : Int) ≤ (i : Int) := by omega
  clear h hm
  go_enter Try.func44, Try.ntmps44
  go_wp2_with fail
  refine (sat_any t HH.out lw).mono ?_
  rintro _ _ ⟨rfl, rfl⟩
  rw [IX.out]
  go_wp2
  go_ret
  exact ⟨rfl, HH.out.stay⟩

set_option maxRecDepth 100000 in
set_option maxHeartbeats 2000000 in
theorem swant_busy (t n : Int) (h : MNew 46 w0 w G b (rscs S)) (hg : SGood S) (hn : S.l.length ≤ 900) (h1 : ¬ t < 1) (h2 : ¬ n < 1) (h3 : ¬ S.size < n) (hm : t ∉ S.who) (hc : S.l ≠ [] ∨ S.free < n) :
    Calls Try.prog 44 #[.pointer (some ⟨b, 0, none⟩), .int .i64 t, .int .i64 n, .bool false] w fun en w' => en = .returned (.int .i64 12) ∧ StepM 46 w0 G w w' b (rscs S) := by
  have HH := hid h
  have IX := hid (idx_out hm)
  have lw : S.who.length ≤ 1000 := by rw [S.who_len]; omega
  obtain ⟨-, vs, vW, vM, -, -, -, -, oW, -, c0, c1, c2, -⟩ := h.rs
  have gd1 := hg.s16
  have gd2 := hg.f0
  have gd3 := hg.f1
  obtain ⟨T, hT⟩ : ∃ T, S.size - S.free = T := ⟨_, rfl⟩
  rw [hT] at c1
  have hsum : IntKind.i64.wrap (T + n) = T + n := IntWalk.i64_in _ ⟨by omega, by omega⟩
  obtain ⟨aW, cW, hv⟩ := oW.form
  rw [S.who_len] at hv
  clear h hm
  by_cases hl : S.l = []
  · have hf : S.free < n := hc.elim (fun h => absurd hl h) id
    have hl0 : S.l.length = 0 := by rw [hl]; rfl
    rw [hl0] at hv
    rw [hv] at c2
    have hgt : S.size < T + n := by omega
    clear hc hl hl0 hv oW hT hg
    go_enter Try.func44, Try.ntmps44
    go_wp2_with fail
    refine (sat_any t HH.out lw).mono ?_
    rintro _ _ ⟨rfl, rfl⟩
    rw [IX.out]
    go_wp2_with fail
    refine wp_region_text [0,0,0,0,0,0,1,0,0,0,0,0,0,1,0,0,0,0,0,1,0,0,0] (fun _ => True) (by kernel_rfl) (by kernel_rfl) trivial ?_
    repeat (first
      | (refine' wpT_calm (v := _) (by rfl) (fun W hW => ?_) ?_; rotate_left
         · ((try dsimp only at hW); go_simp; first | done | rfl)
         simp only [Act.put, List.setIfInBounds_toArray, List.set_cons_zero, List.set_cons_succ])
      | (refine' wpT_reads (v := _) (by rfl) ?_ ?_; rotate_left
         · (go_simp; first | done | rfl)
         simp only [Act.put, List.setIfInBounds_toArray, List.set_cons_zero, List.set_cons_succ])
      | (refine wpT_skip (by rfl) rfl ?_; simp only [Act.put, List.setIfInBounds_toArray, List.set_cons_zero, List.set_cons_succ])
      | (refine wpT_does (by rfl) (fun K hK => ?_); go_simp; refine hK _ _ ?_ ?_
         · (trivial)
         clear hK K; try simp only [Act.put, List.setIfInBounds_toArray, List.set_cons_zero, List.set_cons_succ])
      | (refine wpT_last (by rfl) (fun K hK => ?_); go_simp; refine hK _ _ ?_; clear hK K)
      | (refine wpT_nil ?_))
    have st := hid (StepM.same HH.out ((Keep.refl _ w).drew))
    go_wp2
    go_ret
    exact ⟨rfl, st.out⟩
  · obtain ⟨m, hm⟩ : ∃ m, S.l.length = m := ⟨_, rfl⟩
    have hpos := List.length_pos_iff.2 hl
    rw [hm] at hv hpos
    rw [hv] at c2
    have hpos' : (0 : Int) < (m : Int) := by omega
    clear hc hl hv oW hT hg hm
    go_enter Try.func44, Try.ntmps44
    go_wp2_with fail
    refine (sat_any t HH.out lw).mono ?_
    rintro _ _ ⟨rfl, rfl⟩
    rw [IX.out]
    go_wp2_with fail
    refine wp_region_text [0,0,0,0,0,0,1,0,0,0,0,0,0,1,0,0,0,0,0,1,0,0,0] (fun _ => True) (by kernel_rfl) (by kernel_rfl) trivial ?_
    repeat (first
      | (refine' wpT_calm (v := _) (by rfl) (fun W hW => ?_) ?_; rotate_left
         · ((try dsimp only at hW); go_simp; first | done | rfl)
         simp only [Act.put, List.setIfInBounds_toArray, List.set_cons_zero, List.set_cons_succ])
      | (refine' wpT_reads (v := _) (by rfl) ?_ ?_; rotate_left
         · (go_simp; first | done | rfl)
         simp only [Act.put, List.setIfInBounds_toArray, List.set_cons_zero, List.set_cons_succ])
      | (refine wpT_skip (by rfl) rfl ?_; simp only [Act.put, List.setIfInBounds_toArray, List.set_cons_zero, List.set_cons_succ])
      | (refine wpT_does (by rfl) (fun K hK => ?_); go_simp; refine hK _ _ ?_ ?_
         · (trivial)
         clear hK K; try simp only [Act.put, List.setIfInBounds_toArray, List.set_cons_zero, List.set_cons_succ])
      | (refine wpT_last (by rfl) (fun K hK => ?_); go_simp; refine hK _ _ ?_; clear hK K)
      | (refine wpT_nil ?_))
    have st := hid (StepM.same HH.out ((Keep.refl _ w).drew))
    go_wp2
    go_ret
    exact ⟨rfl, st.out⟩

theorem swant_any (t n : Int) (wait : Bool) (h : MNew 46 w0 w G b (rscs S)) (hg : SGood S) (hn : S.l.length ≤ 900) {e : Int} {S' : SS} (hb : mwn S t n wait = (e, S')) :
    Calls Try.prog 44 #[.pointer (some ⟨b, 0, none⟩), .int .i64 t, .int .i64 n, .bool wait] w fun en w' => en = .returned (.int .i64 e) ∧ StepM 46 w0 G w w' b (rscs S') := by
  by_cases hbad : t < 1 ∨ n < 1 ∨ n > S.size
  · have em : mtr S t n = (1, S) := by unfold mtr; rw [if_pos hbad]
    have : mwn S t n wait = (1, S) := by unfold mwn maq; rw [em]; cases wait <;> rfl
    rw [this] at hb
    cases hb
    exact swant_bad t n wait h hbad
  have h1 : ¬ t < 1 := by omega
  have h2 : ¬ n < 1 := by omega
  have h3 : ¬ S.size < n := by omega
  by_cases hm : t ∈ S.who
  · have em : mtr S t n = (11, S) := by unfold mtr; rw [if_neg hbad, if_pos hm]
    have : mwn S t n wait = (11, S) := by unfold mwn maq; rw [em]; cases wait <;> rfl
    rw [this] at hb
    cases hb
    exact swant_in t n wait h hn h1 h2 h3 hm
  by_cases hc : S.l ≠ [] ∨ S.free < n
  · have em : mtr S t n = (12, S) := by unfold mtr; rw [if_neg hbad, if_neg hm, if_pos hc]
    cases wait
    · have : mwn S t n false = (12, S) := em
      rw [this] at hb
      cases hb
      exact swant_busy t n h hg hn h1 h2 h3 hm hc
    · have : mwn S t n true = (14, { S with l := S.l ++ [(t, n)] }) := by unfold mwn maq; rw [em]; rfl
      rw [this] at hb
      cases hb
      exact swant_true t n h hg hn h1 h2 h3 hm (fun hl hf => by rcases hc with hc | hc; exact absurd hl hc; omega) (fun _ => ⟨rfl, rfl⟩)
  · have em : mtr S t n = (0, { S with free := S.free - n }) := by unfold mtr; rw [if_neg hbad, if_neg hm, if_neg hc]
    have hl : S.l = [] := Decidable.byContradiction fun h => hc (.inl h)
    have hf : n ≤ S.free := by
      have : ¬ S.free < n := fun h => hc (.inr h)
      omega
    have : mwn S t n wait = (0, { S with free := S.free - n }) := by unfold mwn maq; rw [em]; cases wait <;> rfl
    rw [this] at hb
    cases hb
    cases wait
    · exact swant_false t n h hg hn h1 h2 h3 hm hl hf (fun _ _ => ⟨rfl, rfl⟩) (fun h => by rcases h with h | h; exact absurd hl h; exact absurd hf h)
    · exact swant_true t n h hg hn h1 h2 h3 hm (fun _ _ => ⟨rfl, rfl⟩) (fun h => by rcases h with h | h; exact absurd hl h; exact absurd hf h)

set_option maxRecDepth 10000 in
set_option maxHeartbeats 2000000 in
theorem srel_any (n : Int) (h : MNew 46 w0 w G b (rscs S)) (hg : SGood S) (hn : S.l.length ≤ 900) {o : List Int} {e : Int} {S' : SS} (hb : mrl S n = (o, e, S')) :
    Calls Try.prog 45 #[.pointer (some ⟨b, 0, none⟩), .int .i64 n] w fun en w' => ∃ a m, en = .returned (.tuple #[.slice a o.length m, .int .i64 e]) ∧ OutM 46 w0 G w w' b (rscs S') a m o := by
  have HH := hid h
  have HG := hid hg
  obtain ⟨-, vs, vW, vM, hM, -, -, -, -, -, c0, c1, -, -⟩ := h.rs
  have f1 := hM.fro 1
  have gd1 := hg.s16
  have gd2 := hg.f0
  have gd3 := hg.f1
  obtain ⟨T, hT⟩ : ∃ T, S.size - S.free = T := ⟨_, rfl⟩
  rw [hT] at c1
  have t0 : 0 ≤ T := by omega
  have t1 : T ≤ 16 := by omega
  unfold mrl at hb
  clear h hM hg
  by_cases hbad : n < 1 ∨ n > S.size
  · rw [if_pos hbad] at hb
    cases hb
    rcases (by omega : n < 1 ∨ (¬ n < 1 ∧ S.size < n)) with h1 | ⟨h1, h2⟩
    all_goals
      clear hbad hT
      go_enter Try.func45, Try.ntmps45
      go_wp2
      go_ret2
      exact ⟨_, _, rfl, OutM.none HH.out.stay⟩
  rw [if_neg hbad] at hb
  have h1 : ¬ n < 1 := by omega
  have h2 : ¬ S.size < n := by omega
  by_cases hov : S.free > S.size - n
  · rw [if_pos hov] at hb
    cases hb
    have h3 : T < n := by omega
    clear hbad hT hov
    go_enter Try.func45, Try.ntmps45
    go_wp2
    go_ret2
    exact ⟨_, _, rfl, OutM.none HH.out.stay⟩
  rw [if_neg hov] at hb
  have h3 : ¬ T < n := by omega
  have GG : SGood { S with free := S.free + n } := ⟨HG.out.s1, HG.out.s16, by show 0 ≤ S.free + n; omega, by show S.free + n ≤ S.size; omega, HG.out.l⟩
  obtain ⟨o1, f1', l1, hsv⟩ : ∃ o1 f1' l1, srv (S.free + n) S.l = (o1, f1', l1) := ⟨_, _, _, rfl⟩
  rw [hsv] at hb
  cases hb
  have st1 : StepM 46 w0 G w (w.setCell ⟨b, 1, none⟩ (.int .i64 (T - n))) b (rscs { S with free := S.free + n }) := by
    have := HH.out.scal (i := 1) (by simp [rscs, rsc]) (.int .i64 (T - n)) rfl
    have e : T - n = S.size - (S.free + n) := by omega
    rw [e] at this ⊢
    exact this
  obtain ⟨G2, N2, J2, K2⟩ := st1
  have N2 := hid N2
  have JK := hid (And.intro J2 K2)
  have SV := hid hsv
  clear hbad hT hov J2 K2 hsv
  go_enter Try.func45, Try.ntmps45
  go_wp2_with fail
  refine (sserve_any N2.out GG (by show S.l.length ≤ 1000; omega) SV.out).mono ?_
  rintro _ W3 ⟨a3, m3, rfl, hO⟩
  have O := hid (OutM.on JK.out.1 JK.out.2 hO)
  clear hO
  go_wp2
  go_ret2
  exact ⟨_, _, rfl, O.out⟩

theorem map_erase (l : List (Int × Int)) (i : Nat) : (l.eraseIdx i).map (·.1) = (l.map (·.1)).eraseIdx i ∧ (l.eraseIdx i).map (·.2) = (l.map (·.2)).eraseIdx i := by
  induction l generalizing i with
  | nil => exact ⟨rfl, rfl⟩
  | cons p l ih =>
    cases i with
    | zero => exact ⟨rfl, rfl⟩
    | succ i => exact ⟨by simp [(ih i).1], by simp [(ih i).2]⟩

set_option maxRecDepth 10000 in
set_option maxHeartbeats 2000000 in
theorem sdrop_any (t : Int) (h : MNew 46 w0 w G b (rscs S)) (hg : SGood S) (hn : S.l.length ≤ 900) {o : List Int} {e : Bool} {S' : SS} (hb : mdp S t = (o, e, S')) :
    Calls Try.prog 43 #[.pointer (some ⟨b, 0, none⟩), .int .i64 t] w fun en w' => ∃ a m, en = .returned (.tuple #[.slice a o.length m, .bool e]) ∧ OutM 46 w0 G w w' b (rscs S') a m o := by
  have HH := hid h
  have HG := hid hg
  have lw : S.who.length ≤ 1000 := by rw [S.who_len]; omega
  unfold mdp at hb
  by_cases hm : t ∈ S.who
  · rw [if_pos hm] at hb
    have hi : S.who.idxOf t < S.who.length := List.idxOf_lt_length_iff.2 hm
    have IX := hid (idx_in hm)
    obtain ⟨i, hie⟩ : ∃ i, S.who.idxOf t = i := ⟨_, rfl⟩
    rw [hie] at hb hi IX
    have hi0 : (0 : Int) ≤ (i : Int) := by omega
    have GG : SGood { S with l := S.l.eraseIdx i } := ⟨HG.out.s1, HG.out.s16, HG.out.f0, HG.out.f1, fun p hp => HG.out.l p (List.mem_of_mem_eraseIdx hp)⟩
    obtain ⟨o1, f1', l1, hsv⟩ : ∃ o1 f1' l1, srv S.free (S.l.eraseIdx i) = (o1, f1', l1) := ⟨_, _, _, rfl⟩
    rw [hsv] at hb
    cases hb
    have SV := hid hsv
    have hel : (S.l.eraseIdx i).length ≤ 1000 := Nat.le_trans (List.length_eraseIdx_le _ _) (by omega)
    clear h hm hie hsv hg
    go_enter Try.func43, Try.ntmps43
    go_wp2_with fail
    refine (sat_any t HH.out lw).mono ?_
    rintro _ _ ⟨rfl, rfl⟩
    rw [IX.out]
    go_wp2_with fail
    refine (sout_any i hi HH.out lw (by rw [S.who_len, S.many_len])).mono ?_
    rintro _ W2 ⟨rfl, G2, N2, J2, K2⟩
    have N2' : MNew 46 w0 W2 G2 b (rscs { S with l := S.l.eraseIdx i }) := by
      have e : rscs { S with l := S.l.eraseIdx i } = rsc S.size S.free (S.who.eraseIdx i) (S.many.eraseIdx i) := by
        simp only [rscs, SS.who, SS.many]
        rw [(map_erase S.l i).1, (map_erase S.l i).2]
      rw [e]; exact N2
    have N2' := hid N2'
    have JK := hid (And.intro J2 K2)
    clear N2 J2 K2
    go_wp2_with fail
    refine (sserve_any N2'.out GG hel SV.out).mono ?_
    rintro _ W3 ⟨a3, m3, rfl, hO⟩
    have O := hid (OutM.on JK.out.1 JK.out.2 hO)
    clear hO
    go_wp2
    go_ret2
    exact ⟨_, _, rfl, O.out⟩
  · rw [if_neg hm] at hb
    cases hb
    have IX := hid (idx_out hm)
    clear h hm hg
    go_enter Try.func43, Try.ntmps43
    go_wp2_with fail
    refine (sat_any t HH.out lw).mono ?_
    rintro _ _ ⟨rfl, rfl⟩
    rw [IX.out]
    go_wp2
    go_ret2
    exact ⟨_, _, rfl, OutM.none HH.out.stay⟩
end
end Go.Proofs.Ytegpoocmhamlpaa
