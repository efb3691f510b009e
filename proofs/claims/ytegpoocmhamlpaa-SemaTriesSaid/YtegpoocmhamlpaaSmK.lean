/- The walk of the reference's Sema: Want. -/
import Derived.Test.YtegpoocmhamlpaaSmJ
import Derived.Test.YtegpoocmhamlpaaSts
namespace Go.Proofs.Ytegpoocmhamlpaa
open Go Go.RowKit

/-- Values in blocks made since w, no two in one. -/
structure Fam (w W : World) (L : List Value) : Prop where
  bd : ∀ (i : Nat) (v : Value) (k : Nat), L[i]? = some v → v.ownBlock = some k → w.heap.size ≤ k ∧ k < W.heap.size
  dj : ∀ (i j : Nat) (v u : Value) (k : Nat), i ≠ j → L[i]? = some v → L[j]? = some u → v.ownBlock = some k → u.ownBlock ≠ some k

theorem Fam.set {w V W : World} {L : List Value} (h : Fam w V L) {i : Nat} {v v' : Value} (hv : L[i]? = some v) (hs : V.heap.size ≤ W.heap.size) (hw : w.heap.size ≤ V.heap.size)
    (h1 : ∀ k, v'.ownBlock = some k → (v.ownBlock = some k ∨ V.heap.size ≤ k) ∧ k < W.heap.size) : Fam w W (L.set i v') := by
  have hi : i < L.length := (List.getElem?_eq_some_iff.1 hv).1
  have old : ∀ {m : Nat} {u : Value}, i ≠ m → (L.set i v')[m]? = some u → L[m]? = some u := fun e hu => by rwa [List.getElem?_set_ne e] at hu
  have new : ∀ {u : Value}, (L.set i v')[i]? = some u → u = v' := fun hu => by rw [List.getElem?_set_self hi] at hu; exact (Option.some.inj hu).symm
  refine ⟨fun j u k hu hk => ?_, fun j m u x k hne hu hx hk => ?_⟩
  · by_cases e : i = j
    · subst e
      have := new hu; subst this
      exact ⟨(h1 k hk).1.elim (fun e => (h.bd i v k hv e).1) (fun e => Nat.le_trans hw e), (h1 k hk).2⟩
    · have := h.bd j u k (old e hu) hk
      omega
  · by_cases e : i = j
    · subst e
      have := new hu; subst this
      have hx' := old hne hx
      intro hxk
      rcases (h1 k hk).1 with e | e
      · exact h.dj i m v x k hne hv hx' e hxk
      · have := (h.bd m x k hx' hxk).2; omega
    · have hu' := old e hu
      by_cases e2 : i = m
      · subst e2
        have := new hx; subst this
        intro hxk
        rcases (h1 k hxk).1 with e3 | e3
        · exact h.dj j i u v k hne hu' hv hk e3
        · have := (h.bd j u k hu' hk).2; omega
      · exact h.dj j m u x k hne hu' (old e2 hx) hk

theorem Src.keepI {F : Nat → Prop} {w w' : World} {sv : Value} {m : Nat} {l : List Int} (h : Src w sv m 1 (flat1 l)) (hK : Keep F w w') (hF : ∀ k, sv.ownBlock = some k → ¬ F k) : Src w' sv m 1 (flat1 l) := h.keep hK hF

/-- What is known in the midst of Want's two lists. -/
def WantI (w0 : World) (b : Nat) (vW vM : Value) (who many : List Int) (t n : Int) (A0 : Act) (l : Array Bool) (a : Act) (W : World) : Prop :=
  ∃ (p2 p6 p7 p9 p10 p11 p15 p16 p18 p19 : Bool) (v2 v6 v7 v9 v10 v11 v15 v16 v18 v19 X S9 Y S18 : Value), l = #[true, true, p2, true, true, true, p6, p7, true, p9, p10, p11, true, true, true, p15, p16, true, p18, p19, false, false, false, false, false, false] ∧ a = ((((((((((A0).put (some 52) v2).put (some 56) v6).put (some 57) v7).put (some 59) v9).put (some 60) v10).put (some 61) v11).put (some 65) v15).put (some 66) v16).put (some 68) v18).put (some 69) v19 ∧ Keep (fun _ => False) w0 W ∧ Fam w0 W [X, S9, Y, S18] ∧
    (p6 = true → vW = v6) ∧ (p15 = true → vM = v15) ∧
    (p2 = true → p7 = false → X = v2 ∧ OwnI W X []) ∧ (p7 = true → p10 = false → X = v7 ∧ OwnI W X who) ∧ (p10 = true → X = v10 ∧ OwnI W X (who ++ [t])) ∧ (p9 = true → p10 = false → S9 = v9 ∧ Src W S9 1 1 (flat1 [t])) ∧
    (p11 = true → p16 = false → Y = v11 ∧ OwnI W Y []) ∧ (p16 = true → p19 = false → Y = v16 ∧ OwnI W Y many) ∧ (p19 = true → Y = v19 ∧ OwnI W Y (many ++ [n])) ∧ (p18 = true → p19 = false → S18 = v18 ∧ Src W S18 1 1 (flat1 [n])) ∧
    (p7 = true → p2 = true) ∧ (p10 = true → p7 = true ∧ p9 = true) ∧ (p16 = true → p11 = true) ∧ (p19 = true → p16 = true ∧ p18 = true)

theorem Fam.nil (w : World) : Fam w w [undef, undef, undef, undef] := by
  have no : ∀ (i : Nat) (v : Value) (k : Nat), [undef, undef, undef, undef][i]? = some v → v.ownBlock ≠ some k := fun i v k h e => by
    match i, h with
    | 0, h => cases h; cases e
    | 1, h => cases h; cases e
    | 2, h => cases h; cases e
    | 3, h => cases h; cases e
  exact ⟨fun i v k h e => absurd e (no i v k h), fun i j v u k _ h _ e => absurd e (no i v k h)⟩

/-- A list is turned; its slice is apart from the others. -/
theorem MobFit.turnA {w w' : World} {b : Nat} {cs : List Cel} {vs : List Value} (h : MobFit w b cs vs) {i : Nat} {v v' : Value} {c' : Cel} (hv : vs[i]? = some v) (hK : Keep (fun k => v.ownBlock = some k) w w') (hf : c'.fits w' b v')
    (ha : ∀ (j : Nat) (u : Value) (k : Nat), i ≠ j → vs[j]? = some u → v'.ownBlock = some k → u.ownBlock ≠ some k) : MobFit w' b (cs.set i c') (vs.set i v') := by
  have hi : i < vs.length := (List.getElem?_eq_some_iff.1 hv).1
  have old : ∀ {m : Nat} {u : Value}, i ≠ m → (vs.set i v')[m]? = some u → vs[m]? = some u := fun e hu => by rwa [List.getElem?_set_ne e] at hu
  have new : ∀ {u : Value}, (vs.set i v')[i]? = some u → u = v' := fun hu => by rw [List.getElem?_set_self hi] at hu; exact (Option.some.inj hu).symm
  refine ⟨by rw [List.length_set, List.length_set, h.len], fun j c u hc hu => ?_, fun j l vj vl k hj hl hne hk => ?_⟩
  · by_cases e : i = j
    · subst e
      rw [List.getElem?_set_self (by rw [← h.len]; exact hi)] at hc
      rw [List.getElem?_set_self hi] at hu
      cases hc; cases hu
      exact hf
    · rw [List.getElem?_set_ne e] at hc hu
      exact (h.fit j c u hc hu).keep hK fun k hk hk' => h.apart i j v u k hv hu e hk' hk
  · by_cases e : i = j
    · subst e
      have := new hj; subst this
      exact ha l vl k hne (old hne hl) hk
    · have hj' := old e hj
      by_cases e2 : i = l
      · subst e2
        have := new hl; subst this
        exact fun hkl => ha j vj k e hj' hkl hk
      · exact h.apart j l vj vl k hj' (old e2 hl) hne hk

/-- Both lists are turned, and their slices are stored. -/
theorem two_lists {T : Nat} {w V : World} {b : Nat} {z f : Int} {who many l1 l2 : List Int} {vs : List Value} {vW vM X Y : Value} (hM : MobAt T w b (rsc z f who many) vs) (v2 : vs[2]? = some vW) (v3 : vs[3]? = some vM) (K : Keep (fun _ => False) w V)
    (oX : OwnI V X l1) (oY : OwnI V Y l2) (bX : ∀ k, X.ownBlock = some k → w.heap.size ≤ k) (bY : ∀ k, Y.ownBlock = some k → w.heap.size ≤ k) (dj : ∀ k, X.ownBlock = some k → Y.ownBlock ≠ some k) :
    MobAt T ((V.setCell ⟨b, 2, none⟩ X).setCell ⟨b, 3, none⟩ Y) b (rsc z f l1 l2) ((vs.set 2 X).set 3 Y) := by
  have hb := hM.lt
  have M0 : MobAt T V b (rsc z f who many) vs := hM.keep K (fun h => h) (fun _ _ _ _ h => h)
  have lt : ∀ (j : Nat) (u : Value) (k : Nat), vs[j]? = some u → u.ownBlock = some k → k < w.heap.size := fun j u k hu hk => by
    obtain ⟨c, _, hf⟩ := hM.mob.at hu
    exact hf.lt hk
  have f1 : MobFit V b ((rsc z f who many).set 2 (.ci l1)) (vs.set 2 X) := M0.mob.turnA v2 (Keep.refl _ _) ⟨oX, fun e => by have := bX b e; omega⟩ (fun j u k _ hu hk hk2 => by have := bX k hk; have := lt j u k hu hk2; omega)
  have f2 : MobFit V b (rsc z f l1 l2) ((vs.set 2 X).set 3 Y) := f1.turnA (i := 3) (v := vM) (by rw [List.getElem?_set_ne (by decide)]; exact v3) (Keep.refl _ _) ⟨oY, fun e => by have := bY b e; omega⟩ (fun j u k hne hu hk hk2 => by
    by_cases e : 2 = j
    · subst e
      have hi : 2 < vs.length := (List.getElem?_eq_some_iff.1 v2).1
      rw [List.getElem?_set_self hi] at hu
      cases hu
      exact dj k hk2 hk
    · rw [List.getElem?_set_ne e] at hu
      have := bY k hk; have := lt j u k hu hk2; omega)
  refine ⟨?_, (f2.setCell 2 X).setCell 3 Y⟩
  have r1 := heap_setCell_row (o := 2) M0.row X
  rw [List.setIfInBounds_toArray] at r1
  have r2 := heap_setCell_row (o := 3) r1 Y
  rw [List.setIfInBounds_toArray] at r2
  exact r2

section
variable {w0 w : World} {G : Nat → Prop} {b : Nat} {S : SS}

set_option maxRecDepth 100000 in
set_option maxHeartbeats 8000000 in
theorem swant_true (t n : Int) (h : MNew 46 w0 w G b (rscs S)) (hg : SGood S) (hn : S.l.length ≤ 900) (h1 : ¬ t < 1) (h2 : ¬ n < 1) (h3 : ¬ S.size < n) (hm : t ∉ S.who) {e : Int} {S' : SS}
    (h0 : S.l = [] → n ≤ S.free → e = 0 ∧ S' = { S with free := S.free - n }) (h14 : S.l ≠ [] ∨ ¬ n ≤ S.free → e = 14 ∧ S' = { S with l := S.l ++ [(t, n)] }) :
    Calls Try.prog 44 #[.pointer (some ⟨b, 0, none⟩), .int .i64 t, .int .i64 n, .bool true] w fun en w' => en = .returned (.int .i64 e) ∧ StepM 46 w0 G w w' b (rscs S') := by
  have IX := hid (idx_out hm)
  have HH := hid h
  have HG := hid hg
  have H0 := hid h0
  have H14 := hid h14
  have lw : S.who.length ≤ 1000 := by rw [S.who_len]; omega
  have lwi : S.who.length ≤ 900 := by rw [S.who_len]; omega
  have lmi : S.many.length ≤ 900 := by rw [S.many_len]; omega
  obtain ⟨hGb, vs, vW, vM, hM, hvs, v2, v3, oW, oM, c0, c1, c2, c3⟩ := HH.out.rs
  have hb : b < w.heap.size := hM.lt
  have M := hid hM
  have GV := hid hvs
  have V2 := hid v2
  have V3 := hid v3
  have sW : Src w vW S.who.length 1 (flat1 S.who) := oW.src
  have sM : Src w vM S.many.length 1 (flat1 S.many) := oM.src
  obtain ⟨who, hwho⟩ : ∃ l, S.who = l := ⟨_, rfl⟩
  obtain ⟨many, hmany⟩ : ∃ l, S.many = l := ⟨_, rfl⟩
  have famW := Fam.nil w.drew

  clear hM hvs v2 v3 h hm h0 h14 hg
  go_enter Try.func44, Try.ntmps44
  go_wp2_with fail
  refine (sat_any t HH.out lw).mono ?_
  rintro _ _ ⟨rfl, rfl⟩
  rw [IX.out]
  go_wp2_with fail
  refine wp_region_text [0,0,0,0,0,0,1,0,0,0,0,0,0,1,0,0,0,0,0,1,0,0,0] (fun _ => True) (by kernel_rfl) (by kernel_rfl) trivial ?_
  repeat (first
    | (refine' wpT_calm (v := _) (by rfl) (fun W hW => ?_) ?_; rotate_left
       · ((try dsimp only at hW); go_simp; first | done | rfl)
       simp only [Act.put, List.setIfInBounds_toArray, List.set_cons_zero, List.set_cons_succ])
    | (refine' wpT_reads (v := _) (by rfl) ?_ ?_; rotate_left
       · (go_simp; first | done | rfl)
       simp only [Act.put, List.setIfInBounds_toArray, List.set_cons_zero, List.set_cons_succ])
    | (refine wpT_skip (by rfl) rfl ?_; simp only [Act.put, List.setIfInBounds_toArray, List.set_cons_zero, List.set_cons_succ])
    | (refine wpT_does (by rfl) (fun K hK => ?_); go_simp; refine hK _ _ ?_ ?_
       · (trivial)
       clear hK K; (try simp only [Act.put]); (try simp only [List.setIfInBounds_toArray, List.set_cons_zero, List.set_cons_succ]))
    | (refine wpT_last (by rfl) (fun K hK => ?_); go_simp; refine hK _ _ ?_; clear hK K)
    | (refine wpT_nil ?_))
  go_wp2_with fail
  have hbD : b < w.drew.drew.heap.size := hb
  have c2D : w.drew.drew.cell? ⟨b, 2, none⟩ = some vW := c2
  have c3D : w.drew.drew.cell? ⟨b, 3, none⟩ = some vM := c3
  have famD := Fam.nil w.drew.drew
  refine wp_region_pure (by kernel_rfl) ?_
  refine' anyY_pure (v := _) 0 rfl (by kernel_rfl) (by rfl) (fun W => ?_) ?_; rotate_left
  · (go_simp; first | done | rfl)
  (try simp only [Act.put]); (try simp only [List.setIfInBounds_toArray, List.set_cons_zero, List.set_cons_succ])
  refine' anyY_pure (v := _) 1 rfl (by kernel_rfl) (by rfl) (fun W => ?_) ?_; rotate_left
  · (go_simp; first | done | rfl)
  (try simp only [Act.put]); (try simp only [List.setIfInBounds_toArray, List.set_cons_zero, List.set_cons_succ])
  refine' anyY_pure (v := _) 3 rfl (by kernel_rfl) (by rfl) (fun W => ?_) ?_; rotate_left
  · (go_simp; first | done | rfl)
  (try simp only [Act.put]); (try simp only [List.setIfInBounds_toArray, List.set_cons_zero, List.set_cons_succ])
  refine' anyY_pure (v := _) 4 rfl (by kernel_rfl) (by rfl) (fun W => ?_) ?_; rotate_left
  · (go_simp; first | done | rfl)
  (try simp only [Act.put]); (try simp only [List.setIfInBounds_toArray, List.set_cons_zero, List.set_cons_succ])
  refine' anyY_pure (v := _) 5 rfl (by kernel_rfl) (by rfl) (fun W => ?_) ?_; rotate_left
  · (go_simp; first | done | rfl)
  (try simp only [Act.put]); (try simp only [List.setIfInBounds_toArray, List.set_cons_zero, List.set_cons_succ])
  refine' anyY_pure (v := _) 8 rfl (by kernel_rfl) (by rfl) (fun W => ?_) ?_; rotate_left
  · (go_simp; first | done | rfl)
  (try simp only [Act.put]); (try simp only [List.setIfInBounds_toArray, List.set_cons_zero, List.set_cons_succ])
  refine' anyY_pure (v := _) 12 rfl (by kernel_rfl) (by rfl) (fun W => ?_) ?_; rotate_left
  · (go_simp; first | done | rfl)
  (try simp only [Act.put]); (try simp only [List.setIfInBounds_toArray, List.set_cons_zero, List.set_cons_succ])
  refine' anyY_pure (v := _) 13 rfl (by kernel_rfl) (by rfl) (fun W => ?_) ?_; rotate_left
  · (go_simp; first | done | rfl)
  (try simp only [Act.put]); (try simp only [List.setIfInBounds_toArray, List.set_cons_zero, List.set_cons_succ])
  refine' anyY_pure (v := _) 14 rfl (by kernel_rfl) (by rfl) (fun W => ?_) ?_; rotate_left
  · (go_simp; first | done | rfl)
  (try simp only [Act.put]); (try simp only [List.setIfInBounds_toArray, List.set_cons_zero, List.set_cons_succ])
  refine' anyY_pure (v := _) 17 rfl (by kernel_rfl) (by rfl) (fun W => ?_) ?_; rotate_left
  · (go_simp; first | done | rfl)
  (try simp only [Act.put]); (try simp only [List.setIfInBounds_toArray, List.set_cons_zero, List.set_cons_succ])
  simp only [List.getElem_toArray, List.getElem_cons_zero, List.getElem_cons_succ, Act.put, List.setIfInBounds_toArray, List.set_cons_zero, List.set_cons_succ]
  refine anyY_states (WantI w.drew.drew b vW vM S.who S.many t n) ⟨false, false, false, false, false, false, false, false, false, false, undef, undef, undef, undef, undef, undef, undef, undef, undef, undef, undef, undef, undef, undef, rfl, by simp only [List.getElem_toArray, List.getElem_cons_zero, List.getElem_cons_succ, Act.put, List.setIfInBounds_toArray, List.set_cons_zero, List.set_cons_succ], Keep.refl _ _, famD, (fun h => by cases h), (fun h => by cases h), (fun h => by cases h), (fun h => by cases h), (fun h => by cases h), (fun h => by cases h), (fun h => by cases h), (fun h => by cases h), (fun h => by cases h), (fun h => by cases h), (fun h => by cases h), (fun h => by cases h), (fun h => by cases h), (fun h => by cases h)⟩ (by rfl) ?_
  rintro l act V ⟨p2, p6, p7, p9, p10, p11, p15, p16, p18, p19, v2, v6, v7, v9, v10, v11, v15, v16, v18, v19, X, S9, Y, S18, rfl, rfl, KV, fam, l6, l15, x2, x7, x10, s9, y11, y16, y19, s18, o7, o10, o16, o19⟩
  simp only [List.getElem_toArray, List.getElem_cons_zero, List.getElem_cons_succ, Act.put, List.setIfInBounds_toArray, List.set_cons_zero, List.set_cons_succ]
  by_cases hall : (p2 && p6 && p7 && p9 && p10 && p11 && p15 && p16 && p18 && p19) = true
  · refine .inl ?_
    simp only [Bool.and_eq_true] at hall
    obtain ⟨⟨⟨⟨⟨⟨⟨⟨⟨rfl, rfl⟩, rfl⟩, rfl⟩, rfl⟩, rfl⟩, rfl⟩, rfl⟩, rfl⟩, rfl⟩ := hall
    obtain rfl := l6 rfl
    obtain rfl := l15 rfl
    obtain ⟨rfl, oW'⟩ := x10 rfl
    obtain ⟨rfl, oM'⟩ := y19 rfl
    clear x2 x7 x10 s9 y11 y16 y19 s18 o7 o10 o16 o19 l6 l15
    refine any_exit (n := 6) (by kernel_rfl) (by rfl) ?_
    have bX : ∀ k, X.ownBlock = some k → w.heap.size ≤ k := fun k hk => (fam.bd 0 _ k rfl hk).1
    have bY : ∀ k, Y.ownBlock = some k → w.heap.size ≤ k := fun k hk => (fam.bd 2 _ k rfl hk).1
    have dXY : ∀ k, X.ownBlock = some k → Y.ownBlock ≠ some k := fun k hk => fam.dj 0 2 _ _ k (by decide) rfl rfl hk
    have KVw : Keep (fun _ => False) w V := (Keep.refl _ w).drew.drew.trans KV
    have M2 := two_lists M.out V2.out V3.out KVw oW' oM' bX bY dXY
    have KG : Keep G w ((V.setCell ⟨b, 2, none⟩ X).setCell ⟨b, 3, none⟩ Y) := ((KVw.mono fun _ _ h => h.elim).setCell (.inl hGb) X).setCell (.inl hGb) Y
    have st : StepM 46 w0 G w ((V.setCell ⟨b, 2, none⟩ X).setCell ⟨b, 3, none⟩ Y) b (rsc S.size S.free (S.who ++ [t]) (S.many ++ [n])) := HH.out.on (AfterM.stored M2 KG hGb fun v hv k hk => by
      rcases List.mem_or_eq_of_mem_set hv with hv | rfl
      · rcases List.mem_or_eq_of_mem_set hv with hv | rfl
        · exact .inl (GV.out v hv k hk)
        · exact .inr (bX k hk)
      · exact .inr (bY k hk))
    have ST := hid st
    obtain ⟨aX, cX, hX⟩ := oW'.form
    obtain ⟨aY, cY, hY⟩ := oM'.form
    obtain ⟨m1, hm1⟩ : ∃ m, (S.who ++ [t]).length = m := ⟨_, rfl⟩
    obtain ⟨m2, hm2⟩ : ∃ m, (S.many ++ [n]).length = m := ⟨_, rfl⟩
    rw [hm1] at hX
    rw [hm2] at hY
    have HM1 := hid hm1
    subst hX hY
    have MM0 : MobAt 46 V b (rsc S.size S.free S.who S.many) vs := M.out.keep KVw (fun h => h) (fun _ _ _ _ h => h)
    have d2 := MM0.cell V2.out
    have d3 := MM0.cell V3.out
    have g2 := MM0.fro 2
    have g3 := MM0.fro 3
    clear bX bY dXY KVw M2 KG st oW' oM' fam KV hm1 hm2 MM0
    refine anyY_go [2,2,2,2,2,2,2,2,2,2,2,2,2,2,2,2,2,2,2,2,0,0,2,0,0,3] (fun _ => True) trivial ?_
    refine' anyX_calm (v := _) 20 rfl (by kernel_rfl) (by rfl) (fun W hW => ?_) ?_; rotate_left
    · ((try dsimp only at hW); go_simp; first | done | rfl)
    (try simp only [Act.put]); (try simp only [List.setIfInBounds_toArray, List.set_cons_zero, List.set_cons_succ])
    refine' anyX_calm (v := _) 21 rfl (by kernel_rfl) (by rfl) (fun W hW => ?_) ?_; rotate_left
    · ((try dsimp only at hW); go_simp; first | done | rfl)
    (try simp only [Act.put]); (try simp only [List.setIfInBounds_toArray, List.set_cons_zero, List.set_cons_succ])
    refine anyX_does 22 rfl (by kernel_rfl) (by rfl) (fun K hK => ?_)
    go_simp
    refine hK _ _ trivial ?_
    clear hK K
    simp only [List.getElem_toArray, List.getElem_cons_zero, List.getElem_cons_succ, Act.put, List.setIfInBounds_toArray, List.set_cons_zero, List.set_cons_succ]
    refine' anyX_calm (v := _) 23 rfl (by kernel_rfl) (by rfl) (fun W hW => ?_) ?_; rotate_left
    · ((try dsimp only at hW); go_simp; first | done | rfl)
    (try simp only [Act.put]); (try simp only [List.setIfInBounds_toArray, List.set_cons_zero, List.set_cons_succ])
    refine' anyX_calm (v := _) 24 rfl (by kernel_rfl) (by rfl) (fun W hW => ?_) ?_; rotate_left
    · ((try dsimp only at hW); go_simp; first | done | rfl)
    (try simp only [Act.put]); (try simp only [List.setIfInBounds_toArray, List.set_cons_zero, List.set_cons_succ])
    refine anyX_last 25 rfl (by kernel_rfl) (by rfl) (fun K hK => ?_)
    go_simp
    refine hK _ _ ?_
    clear hK K g2 g3
    by_cases hl : S.l = []
    · have e4 : rsc S.size S.free (S.who ++ [t]) (S.many ++ [n]) = rscs { S with l := [(t, n)] } := by simp [rscs, SS.who, SS.many, hl]
      have GG : SGood { S with l := [(t, n)] } := ⟨HG.out.s1, HG.out.s16, HG.out.f0, HG.out.f1, fun p hp => by obtain rfl := List.mem_singleton.1 hp; exact ⟨by show 1 ≤ t; omega, by show 1 ≤ n; omega, by show n ≤ S.size; omega⟩⟩
      have hlen : m1 = 1 := by rw [← HM1.out]; simp [SS.who, hl]
      subst hlen
      obtain ⟨G2, N2, J2, K2⟩ := ST.out
      rw [e4] at N2
      have N2 := hid N2
      have JK := hid (And.intro J2 K2)
      have HL := hid hl
      clear J2 K2 e4 ST hl
      go_wp2_with fail
      by_cases hf : n ≤ S.free
      · have hsv : srv S.free [(t, n)] = ([t], S.free - n, []) := by rw [srv_cons_yes (by exact hf)]; rfl
        have e5 : rscs { { S with l := [(t, n)] } with free := S.free - n, l := [] } = rscs { S with free := S.free - n } := by rw [HL.out]
        refine (sserve_any N2.out GG (by simp) hsv).mono ?_
        rintro _ W3 ⟨a3, m3, rfl, R3, K3, G3, N3, J3, Q3⟩
        rw [e5] at N3
        have FIN : StepM 46 w0 G w W3 b (rscs { S with free := S.free - n }) := StepM.trans ⟨N2.out, JK.out.1, JK.out.2⟩ ⟨G3, N3, J3, K3⟩
        have FIN := hid FIN
        have RES := hid (H0.out HL.out hf)
        clear K3 J3 Q3 R3 N3 e5
        go_wp2
        go_ret
        rw [RES.out.1, RES.out.2]
        exact ⟨rfl, FIN.out⟩
      · have hsv : srv S.free [(t, n)] = ([], S.free, [(t, n)]) := by rw [srv_cons_no (by exact hf)]
        have e5 : rscs { { S with l := [(t, n)] } with free := S.free, l := [(t, n)] } = rscs { S with l := S.l ++ [(t, n)] } := by rw [HL.out]; rfl
        refine (sserve_any N2.out GG (by simp) hsv).mono ?_
        rintro _ W3 ⟨a3, m3, rfl, R3, K3, G3, N3, J3, Q3⟩
        rw [e5] at N3
        have FIN : StepM 46 w0 G w W3 b (rscs { S with l := S.l ++ [(t, n)] }) := StepM.trans ⟨N2.out, JK.out.1, JK.out.2⟩ ⟨G3, N3, J3, K3⟩
        have FIN := hid FIN
        have RES := hid (H14.out (.inr (by omega)))
        clear K3 J3 Q3 R3 N3 e5
        go_wp2
        go_ret
        rw [RES.out.1, RES.out.2]
        exact ⟨rfl, FIN.out⟩
    · have e4 : rsc S.size S.free (S.who ++ [t]) (S.many ++ [n]) = rscs { S with l := S.l ++ [(t, n)] } := by simp [rscs, SS.who, SS.many]
      have hpos := List.length_pos_iff.2 hl
      have hlen : m1 = S.l.length + 1 := by rw [← HM1.out]; simp [SS.who]
      have hb1 : ((m1 : Int) == 1) = false := by simp; omega
      have FIN := ST.out
      rw [e4] at FIN
      have FIN := hid FIN
      have RES := hid (H14.out (.inl hl))
      clear e4 ST hl hpos hlen
      go_wp2
      go_ret
      rw [RES.out.1, RES.out.2]
      exact ⟨rfl, FIN.out⟩
  · refine .inr ⟨?_, fun i hi => ?_⟩
    · cases p2
      · exact mem_of_depsB (i := 2) rfl (by kernel_rfl)
      cases p6
      · exact mem_of_depsB (i := 6) rfl (by kernel_rfl)
      cases p7
      · exact mem_of_depsB (i := 7) rfl (by kernel_rfl)
      cases p9
      · exact mem_of_depsB (i := 9) rfl (by kernel_rfl)
      cases p10
      · exact mem_of_depsB (i := 10) rfl (by kernel_rfl)
      cases p11
      · exact mem_of_depsB (i := 11) rfl (by kernel_rfl)
      cases p15
      · exact mem_of_depsB (i := 15) rfl (by kernel_rfl)
      cases p16
      · exact mem_of_depsB (i := 16) rfl (by kernel_rfl)
      cases p18
      · exact mem_of_depsB (i := 18) rfl (by kernel_rfl)
      cases p19
      · exact mem_of_depsB (i := 19) rfl (by kernel_rfl)
      exact absurd rfl hall
    · obtain ⟨hi1, hi2, -⟩ := ready_depsB hi
      rcases (by have : i < 26 := hi1; omega : i = 0 ∨ i = 1 ∨ i = 2 ∨ i = 3 ∨ i = 4 ∨ i = 5 ∨ i = 6 ∨ i = 7 ∨ i = 8 ∨ i = 9 ∨ i = 10 ∨ i = 11 ∨ i = 12 ∨ i = 13 ∨ i = 14 ∨ i = 15 ∨ i = 16 ∨ i = 17 ∨ i = 18 ∨ i = 19 ∨ i = 20 ∨ i = 21 ∨ i = 22 ∨ i = 23 ∨ i = 24 ∨ i = 25) with rfl | rfl | rfl | rfl | rfl | rfl | rfl | rfl | rfl | rfl | rfl | rfl | rfl | rfl | rfl | rfl | rfl | rfl | rfl | rfl | rfl | rfl | rfl | rfl | rfl | rfl
      · exact Bool.noConfusion (hi2 : true = false)
      · exact Bool.noConfusion (hi2 : true = false)
      · have qk : p2 = false := hi2
        subst qk
        have k2 : Keep (fun _ => False) V (V.alloc (.cells #[] 3)) := (Keep.refl _ _).alloc _
        have r2 : OwnI (V.alloc (.cells #[] 3)) (.slice (some ⟨V.heap.size, 0, none⟩) 0 0) [] := made_rowI V
        refine wpOp_go rfl (by rfl) (fun K hK => ?_)
        go_simp
        exact hK _ _ ⟨true, p6, p7, p9, p10, p11, p15, p16, p18, p19, _, v6, v7, v9, v10, v11, v15, v16, v18, v19, (.slice (some ⟨V.heap.size, 0, none⟩) 0 0), S9, Y, S18, rfl, by simp only [List.getElem_toArray, List.getElem_cons_zero, List.getElem_cons_succ, Act.put, List.setIfInBounds_toArray, List.set_cons_zero, List.set_cons_succ], KV.trans k2, (fam.set (i := 0) (v' := (.slice (some ⟨V.heap.size, 0, none⟩) 0 0)) rfl k2.size KV.size (fun z hz => by have e := Option.some.inj hz; dsimp only at e; rw [World.size_alloc]; exact ⟨.inr (by omega), by omega⟩)), l6, l15, (fun _ _ => ⟨rfl, r2⟩), (fun h => absurd (o7 h) (by decide)), (fun h => absurd (o7 (o10 h).1) (by decide)), (fun h h' => ⟨(s9 h h').1, (s9 h h').2.keepI k2 (fun _ _ h => h)⟩), (fun h h' => ⟨(y11 h h').1, (y11 h h').2.keep k2 (fun _ _ h => h)⟩), (fun h h' => ⟨(y16 h h').1, (y16 h h').2.keep k2 (fun _ _ h => h)⟩), (fun h => ⟨(y19 h).1, (y19 h).2.keep k2 (fun _ _ h => h)⟩), (fun h h' => ⟨(s18 h h').1, (s18 h h').2.keepI k2 (fun _ _ h => h)⟩), (fun _ => rfl), o10, o16, o19⟩
      · exact Bool.noConfusion (hi2 : true = false)
      · exact Bool.noConfusion (hi2 : true = false)
      · exact Bool.noConfusion (hi2 : true = false)
      · have qk : p6 = false := hi2
        subst qk
        have cc := (KV.cell (p := ⟨b, 2, none⟩) hbD (fun h => h)).trans c2D
        refine wpOp_go rfl (by rfl) (fun K hK => ?_)
        go_simp
        exact hK _ _ ⟨p2, true, p7, p9, p10, p11, p15, p16, p18, p19, v2, _, v7, v9, v10, v11, v15, v16, v18, v19, X, S9, Y, S18, rfl, by simp only [List.getElem_toArray, List.getElem_cons_zero, List.getElem_cons_succ, Act.put, List.setIfInBounds_toArray, List.set_cons_zero, List.set_cons_succ], KV, fam, (fun _ => rfl), l15, x2, x7, x10, s9, y11, y16, y19, s18, o7, o10, o16, o19⟩
      · have qk : p7 = false := hi2
        subst qk
        have q2 : p2 = true := dep_on 2 hi (by kernel_rfl)
        have q6 : p6 = true := dep_on 6 hi (by kernel_rfl)
        obtain ⟨rfl, oX⟩ := x2 q2 rfl
        obtain rfl := l6 q6
        refine wpOp_go rfl (by rfl) (fun K hK => ?_)
        refine wp_append_ints _ (.tmp 52) (.tmp 56) rfl _ [] rfl oX _ S.who.length S.who rfl (sW.keepI ((Keep.refl (fun _ => False) w).drew.drew.trans KV) (fun _ _ h => h)) (by simp; omega) ?_
        intro y W1 o1 f1 k1
        try rw [List.nil_append] at o1
        have KW : Keep (fun _ => False) w.drew.drew W1 := KV.then k1 (fun z hz => .inr (fam.bd 0 _ z rfl hz).1)
        exact hK _ _ ⟨p2, p6, true, p9, p10, p11, p15, p16, p18, p19, X, vW, y, v9, v10, v11, v15, v16, v18, v19, y, S9, Y, S18, rfl, by simp only [List.getElem_toArray, List.getElem_cons_zero, List.getElem_cons_succ, Act.put, List.setIfInBounds_toArray, List.set_cons_zero, List.set_cons_succ], KW, (fam.set (i := 0) (v' := y) rfl k1.size KV.size (fun z hz => ⟨f1 z hz, own_lt o1 hz⟩)), l6, l15, (fun _ h => by cases h), (fun _ _ => ⟨rfl, o1⟩), (fun h => absurd (o10 h).1 (by decide)), (fun h h' => ⟨(s9 h h').1, (s9 h h').2.keepI k1 (fun z hz h => fam.dj 0 1 _ _ z (by decide) rfl rfl h hz)⟩), (fun h h' => ⟨(y11 h h').1, (y11 h h').2.keep k1 (fun z hz h => fam.dj 0 2 _ _ z (by decide) rfl rfl h hz)⟩), (fun h h' => ⟨(y16 h h').1, (y16 h h').2.keep k1 (fun z hz h => fam.dj 0 2 _ _ z (by decide) rfl rfl h hz)⟩), (fun h => ⟨(y19 h).1, (y19 h).2.keep k1 (fun z hz h => fam.dj 0 2 _ _ z (by decide) rfl rfl h hz)⟩), (fun h h' => ⟨(s18 h h').1, (s18 h h').2.keepI k1 (fun z hz h => fam.dj 0 3 _ _ z (by decide) rfl rfl h hz)⟩), (fun _ => q2), (fun h => absurd (o10 h).1 (by decide)), o16, o19⟩
      · exact Bool.noConfusion (hi2 : true = false)
      · have qk : p9 = false := hi2
        subst qk
        have k2 : Keep (fun _ => False) V (V.alloc (.cells #[.int .i64 t] 3)) := (Keep.refl _ _).alloc _
        have r2 : Src (V.alloc (.cells #[.int .i64 t] 3)) (.slice (some ⟨V.heap.size, 0, none⟩) 1 1) 1 1 (flat1 [t]) := one_srcI V t
        refine wpOp_go rfl (by rfl) (fun K hK => ?_)
        go_simp
        exact hK _ _ ⟨p2, p6, p7, true, p10, p11, p15, p16, p18, p19, v2, v6, v7, _, v10, v11, v15, v16, v18, v19, X, (.slice (some ⟨V.heap.size, 0, none⟩) 1 1), Y, S18, rfl, by simp only [List.getElem_toArray, List.getElem_cons_zero, List.getElem_cons_succ, Act.put, List.setIfInBounds_toArray, List.set_cons_zero, List.set_cons_succ], KV.trans k2, (fam.set (i := 1) (v' := (.slice (some ⟨V.heap.size, 0, none⟩) 1 1)) rfl k2.size KV.size (fun z hz => by have e := Option.some.inj hz; dsimp only at e; rw [World.size_alloc]; exact ⟨.inr (by omega), by omega⟩)), l6, l15, (fun h h' => ⟨(x2 h h').1, (x2 h h').2.keep k2 (fun _ _ h => h)⟩), (fun h h' => ⟨(x7 h h').1, (x7 h h').2.keep k2 (fun _ _ h => h)⟩), (fun h => absurd (o10 h).2 (by decide)), (fun _ _ => ⟨rfl, r2⟩), (fun h h' => ⟨(y11 h h').1, (y11 h h').2.keep k2 (fun _ _ h => h)⟩), (fun h h' => ⟨(y16 h h').1, (y16 h h').2.keep k2 (fun _ _ h => h)⟩), (fun h => ⟨(y19 h).1, (y19 h).2.keep k2 (fun _ _ h => h)⟩), (fun h h' => ⟨(s18 h h').1, (s18 h h').2.keepI k2 (fun _ _ h => h)⟩), o7, (fun h => ⟨(o10 h).1, rfl⟩), o16, o19⟩
      · have qk : p10 = false := hi2
        subst qk
        have q7 : p7 = true := dep_on 7 hi (by kernel_rfl)
        have q9 : p9 = true := dep_on 9 hi (by kernel_rfl)
        obtain ⟨rfl, oX⟩ := x7 q7 rfl
        obtain ⟨rfl, sX⟩ := s9 q9 rfl
        refine wpOp_go rfl (by rfl) (fun K hK => ?_)
        refine wp_append_ints _ (.tmp 57) (.tmp 59) rfl _ S.who rfl oX _ 1 [t] rfl sX (by omega) ?_
        intro y W1 o1 f1 k1
        try rw [List.nil_append] at o1
        have KW : Keep (fun _ => False) w.drew.drew W1 := KV.then k1 (fun z hz => .inr (fam.bd 0 _ z rfl hz).1)
        exact hK _ _ ⟨p2, p6, p7, p9, true, p11, p15, p16, p18, p19, v2, v6, X, S9, y, v11, v15, v16, v18, v19, y, S9, Y, S18, rfl, by simp only [List.getElem_toArray, List.getElem_cons_zero, List.getElem_cons_succ, Act.put, List.setIfInBounds_toArray, List.set_cons_zero, List.set_cons_succ], KW, (fam.set (i := 0) (v' := y) rfl k1.size KV.size (fun z hz => ⟨f1 z hz, own_lt o1 hz⟩)), l6, l15, (fun _ h => by rw [q7] at h; cases h), (fun _ h => by cases h), (fun _ => ⟨rfl, o1⟩), (fun _ h => by cases h), (fun h h' => ⟨(y11 h h').1, (y11 h h').2.keep k1 (fun z hz h => fam.dj 0 2 _ _ z (by decide) rfl rfl h hz)⟩), (fun h h' => ⟨(y16 h h').1, (y16 h h').2.keep k1 (fun z hz h => fam.dj 0 2 _ _ z (by decide) rfl rfl h hz)⟩), (fun h => ⟨(y19 h).1, (y19 h).2.keep k1 (fun z hz h => fam.dj 0 2 _ _ z (by decide) rfl rfl h hz)⟩), (fun h h' => ⟨(s18 h h').1, (s18 h h').2.keepI k1 (fun z hz h => fam.dj 0 3 _ _ z (by decide) rfl rfl h hz)⟩), o7, (fun _ => ⟨q7, q9⟩), o16, o19⟩
      · have qk : p11 = false := hi2
        subst qk
        have k2 : Keep (fun _ => False) V (V.alloc (.cells #[] 3)) := (Keep.refl _ _).alloc _
        have r2 : OwnI (V.alloc (.cells #[] 3)) (.slice (some ⟨V.heap.size, 0, none⟩) 0 0) [] := made_rowI V
        refine wpOp_go rfl (by rfl) (fun K hK => ?_)
        go_simp
        exact hK _ _ ⟨p2, p6, p7, p9, p10, true, p15, p16, p18, p19, v2, v6, v7, v9, v10, _, v15, v16, v18, v19, X, S9, (.slice (some ⟨V.heap.size, 0, none⟩) 0 0), S18, rfl, by simp only [List.getElem_toArray, List.getElem_cons_zero, List.getElem_cons_succ, Act.put, List.setIfInBounds_toArray, List.set_cons_zero, List.set_cons_succ], KV.trans k2, (fam.set (i := 2) (v' := (.slice (some ⟨V.heap.size, 0, none⟩) 0 0)) rfl k2.size KV.size (fun z hz => by have e := Option.some.inj hz; dsimp only at e; rw [World.size_alloc]; exact ⟨.inr (by omega), by omega⟩)), l6, l15, (fun h h' => ⟨(x2 h h').1, (x2 h h').2.keep k2 (fun _ _ h => h)⟩), (fun h h' => ⟨(x7 h h').1, (x7 h h').2.keep k2 (fun _ _ h => h)⟩), (fun h => ⟨(x10 h).1, (x10 h).2.keep k2 (fun _ _ h => h)⟩), (fun h h' => ⟨(s9 h h').1, (s9 h h').2.keepI k2 (fun _ _ h => h)⟩), (fun _ _ => ⟨rfl, r2⟩), (fun h => absurd (o16 h) (by decide)), (fun h => absurd (o16 (o19 h).1) (by decide)), (fun h h' => ⟨(s18 h h').1, (s18 h h').2.keepI k2 (fun _ _ h => h)⟩), o7, o10, (fun _ => rfl), o19⟩
      · exact Bool.noConfusion (hi2 : true = false)
      · exact Bool.noConfusion (hi2 : true = false)
      · exact Bool.noConfusion (hi2 : true = false)
      · have qk : p15 = false := hi2
        subst qk
        have cc := (KV.cell (p := ⟨b, 3, none⟩) hbD (fun h => h)).trans c3D
        refine wpOp_go rfl (by rfl) (fun K hK => ?_)
        go_simp
        exact hK _ _ ⟨p2, p6, p7, p9, p10, p11, true, p16, p18, p19, v2, v6, v7, v9, v10, v11, _, v16, v18, v19, X, S9, Y, S18, rfl, by simp only [List.getElem_toArray, List.getElem_cons_zero, List.getElem_cons_succ, Act.put, List.setIfInBounds_toArray, List.set_cons_zero, List.set_cons_succ], KV, fam, l6, (fun _ => rfl), x2, x7, x10, s9, y11, y16, y19, s18, o7, o10, o16, o19⟩
      · have qk : p16 = false := hi2
        subst qk
        have q11 : p11 = true := dep_on 11 hi (by kernel_rfl)
        have q15 : p15 = true := dep_on 15 hi (by kernel_rfl)
        obtain ⟨rfl, oX⟩ := y11 q11 rfl
        obtain rfl := l15 q15
        refine wpOp_go rfl (by rfl) (fun K hK => ?_)
        refine wp_append_ints _ (.tmp 61) (.tmp 65) rfl _ [] rfl oX _ S.many.length S.many rfl (sM.keepI ((Keep.refl (fun _ => False) w).drew.drew.trans KV) (fun _ _ h => h)) (by simp; omega) ?_
        intro y W1 o1 f1 k1
        try rw [List.nil_append] at o1
        have KW : Keep (fun _ => False) w.drew.drew W1 := KV.then k1 (fun z hz => .inr (fam.bd 2 _ z rfl hz).1)
        exact hK _ _ ⟨p2, p6, p7, p9, p10, p11, p15, true, p18, p19, v2, v6, v7, v9, v10, Y, vM, y, v18, v19, X, S9, y, S18, rfl, by simp only [List.getElem_toArray, List.getElem_cons_zero, List.getElem_cons_succ, Act.put, List.setIfInBounds_toArray, List.set_cons_zero, List.set_cons_succ], KW, (fam.set (i := 2) (v' := y) rfl k1.size KV.size (fun z hz => ⟨f1 z hz, own_lt o1 hz⟩)), l6, l15, (fun h h' => ⟨(x2 h h').1, (x2 h h').2.keep k1 (fun z hz h => fam.dj 2 0 _ _ z (by decide) rfl rfl h hz)⟩), (fun h h' => ⟨(x7 h h').1, (x7 h h').2.keep k1 (fun z hz h => fam.dj 2 0 _ _ z (by decide) rfl rfl h hz)⟩), (fun h => ⟨(x10 h).1, (x10 h).2.keep k1 (fun z hz h => fam.dj 2 0 _ _ z (by decide) rfl rfl h hz)⟩), (fun h h' => ⟨(s9 h h').1, (s9 h h').2.keepI k1 (fun z hz h => fam.dj 2 1 _ _ z (by decide) rfl rfl h hz)⟩), (fun _ h => by cases h), (fun _ _ => ⟨rfl, o1⟩), (fun h => absurd (o19 h).1 (by decide)), (fun h h' => ⟨(s18 h h').1, (s18 h h').2.keepI k1 (fun z hz h => fam.dj 2 3 _ _ z (by decide) rfl rfl h hz)⟩), o7, o10, (fun _ => q11), (fun h => absurd (o19 h).1 (by decide))⟩
      · exact Bool.noConfusion (hi2 : true = false)
      · have qk : p18 = false := hi2
        subst qk
        have k2 : Keep (fun _ => False) V (V.alloc (.cells #[.int .i64 n] 3)) := (Keep.refl _ _).alloc _
        have r2 : Src (V.alloc (.cells #[.int .i64 n] 3)) (.slice (some ⟨V.heap.size, 0, none⟩) 1 1) 1 1 (flat1 [n]) := one_srcI V n
        refine wpOp_go rfl (by rfl) (fun K hK => ?_)
        go_simp
        exact hK _ _ ⟨p2, p6, p7, p9, p10, p11, p15, p16, true, p19, v2, v6, v7, v9, v10, v11, v15, v16, _, v19, X, S9, Y, (.slice (some ⟨V.heap.size, 0, none⟩) 1 1), rfl, by simp only [List.getElem_toArray, List.getElem_cons_zero, List.getElem_cons_succ, Act.put, List.setIfInBounds_toArray, List.set_cons_zero, List.set_cons_succ], KV.trans k2, (fam.set (i := 3) (v' := (.slice (some ⟨V.heap.size, 0, none⟩) 1 1)) rfl k2.size KV.size (fun z hz => by have e := Option.some.inj hz; dsimp only at e; rw [World.size_alloc]; exact ⟨.inr (by omega), by omega⟩)), l6, l15, (fun h h' => ⟨(x2 h h').1, (x2 h h').2.keep k2 (fun _ _ h => h)⟩), (fun h h' => ⟨(x7 h h').1, (x7 h h').2.keep k2 (fun _ _ h => h)⟩), (fun h => ⟨(x10 h).1, (x10 h).2.keep k2 (fun _ _ h => h)⟩), (fun h h' => ⟨(s9 h h').1, (s9 h h').2.keepI k2 (fun _ _ h => h)⟩), (fun h h' => ⟨(y11 h h').1, (y11 h h').2.keep k2 (fun _ _ h => h)⟩), (fun h h' => ⟨(y16 h h').1, (y16 h h').2.keep k2 (fun _ _ h => h)⟩), (fun h => absurd (o19 h).2 (by decide)), (fun _ _ => ⟨rfl, r2⟩), o7, o10, o16, (fun h => ⟨(o19 h).1, rfl⟩)⟩
      · have qk : p19 = false := hi2
        subst qk
        have q16 : p16 = true := dep_on 16 hi (by kernel_rfl)
        have q18 : p18 = true := dep_on 18 hi (by kernel_rfl)
        obtain ⟨rfl, oX⟩ := y16 q16 rfl
        obtain ⟨rfl, sX⟩ := s18 q18 rfl
        refine wpOp_go rfl (by rfl) (fun K hK => ?_)
        refine wp_append_ints _ (.tmp 66) (.tmp 68) rfl _ S.many rfl oX _ 1 [n] rfl sX (by omega) ?_
        intro y W1 o1 f1 k1
        try rw [List.nil_append] at o1
        have KW : Keep (fun _ => False) w.drew.drew W1 := KV.then k1 (fun z hz => .inr (fam.bd 2 _ z rfl hz).1)
        exact hK _ _ ⟨p2, p6, p7, p9, p10, p11, p15, p16, p18, true, v2, v6, v7, v9, v10, v11, v15, Y, S18, y, X, S9, y, S18, rfl, by simp only [List.getElem_toArray, List.getElem_cons_zero, List.getElem_cons_succ, Act.put, List.setIfInBounds_toArray, List.set_cons_zero, List.set_cons_succ], KW, (fam.set (i := 2) (v' := y) rfl k1.size KV.size (fun z hz => ⟨f1 z hz, own_lt o1 hz⟩)), l6, l15, (fun h h' => ⟨(x2 h h').1, (x2 h h').2.keep k1 (fun z hz h => fam.dj 2 0 _ _ z (by decide) rfl rfl h hz)⟩), (fun h h' => ⟨(x7 h h').1, (x7 h h').2.keep k1 (fun z hz h => fam.dj 2 0 _ _ z (by decide) rfl rfl h hz)⟩), (fun h => ⟨(x10 h).1, (x10 h).2.keep k1 (fun z hz h => fam.dj 2 0 _ _ z (by decide) rfl rfl h hz)⟩), (fun h h' => ⟨(s9 h h').1, (s9 h h').2.keepI k1 (fun z hz h => fam.dj 2 1 _ _ z (by decide) rfl rfl h hz)⟩), (fun _ h => by rw [q16] at h; cases h), (fun _ h => by cases h), (fun _ => ⟨rfl, o1⟩), (fun _ h => by cases h), o7, o10, o16, (fun _ => ⟨q16, q18⟩)⟩
      · exfalso
        exact hall (by
          have q2 : p2 = true := dep_on 2 hi (by kernel_rfl)
          have q6 : p6 = true := dep_on 6 hi (by kernel_rfl)
          have q7 : p7 = true := dep_on 7 hi (by kernel_rfl)
          have q9 : p9 = true := dep_on 9 hi (by kernel_rfl)
          have q10 : p10 = true := dep_on 10 hi (by kernel_rfl)
          have q15 : p15 = true := dep_on 15 hi (by kernel_rfl)
          have q16 : p16 = true := dep_on 16 hi (by kernel_rfl)
          have q19 : p19 = true := dep_on 19 hi (by kernel_rfl)
          have q11 : p11 = true := o16 q16
          have q18 : p18 = true := (o19 q19).2
          rw [q2, q6, q7, q9, q10, q11, q15, q16, q18, q19]; rfl)
      · exfalso
        exact hall (by
          have q2 : p2 = true := dep_on 2 hi (by kernel_rfl)
          have q6 : p6 = true := dep_on 6 hi (by kernel_rfl)
          have q7 : p7 = true := dep_on 7 hi (by kernel_rfl)
          have q9 : p9 = true := dep_on 9 hi (by kernel_rfl)
          have q10 : p10 = true := dep_on 10 hi (by kernel_rfl)
          have q15 : p15 = true := dep_on 15 hi (by kernel_rfl)
          have q16 : p16 = true := dep_on 16 hi (by kernel_rfl)
          have q19 : p19 = true := dep_on 19 hi (by kernel_rfl)
          have q11 : p11 = true := o16 q16
          have q18 : p18 = true := (o19 q19).2
          rw [q2, q6, q7, q9, q10, q11, q15, q16, q18, q19]; rfl)
      · exfalso
        exact hall (by
          have q2 : p2 = true := dep_on 2 hi (by kernel_rfl)
          have q6 : p6 = true := dep_on 6 hi (by kernel_rfl)
          have q7 : p7 = true := dep_on 7 hi (by kernel_rfl)
          have q9 : p9 = true := dep_on 9 hi (by kernel_rfl)
          have q10 : p10 = true := dep_on 10 hi (by kernel_rfl)
          have q15 : p15 = true := dep_on 15 hi (by kernel_rfl)
          have q16 : p16 = true := dep_on 16 hi (by kernel_rfl)
          have q19 : p19 = true := dep_on 19 hi (by kernel_rfl)
          have q11 : p11 = true := o16 q16
          have q18 : p18 = true := (o19 q19).2
          rw [q2, q6, q7, q9, q10, q11, q15, q16, q18, q19]; rfl)
      · exfalso
        exact hall (by
          have q2 : p2 = true := dep_on 2 hi (by kernel_rfl)
          have q6 : p6 = true := dep_on 6 hi (by kernel_rfl)
          have q7 : p7 = true := dep_on 7 hi (by kernel_rfl)
          have q9 : p9 = true := dep_on 9 hi (by kernel_rfl)
          have q10 : p10 = true := dep_on 10 hi (by kernel_rfl)
          have q15 : p15 = true := dep_on 15 hi (by kernel_rfl)
          have q16 : p16 = true := dep_on 16 hi (by kernel_rfl)
          have q19 : p19 = true := dep_on 19 hi (by kernel_rfl)
          have q11 : p11 = true := o16 q16
          have q18 : p18 = true := (o19 q19).2
          rw [q2, q6, q7, q9, q10, q11, q15, q16, q18, q19]; rfl)
      · exfalso
        exact hall (by
          have q2 : p2 = true := dep_on 2 hi (by kernel_rfl)
          have q6 : p6 = true := dep_on 6 hi (by kernel_rfl)
          have q7 : p7 = true := dep_on 7 hi (by kernel_rfl)
          have q9 : p9 = true := dep_on 9 hi (by kernel_rfl)
          have q10 : p10 = true := dep_on 10 hi (by kernel_rfl)
          have q15 : p15 = true := dep_on 15 hi (by kernel_rfl)
          have q16 : p16 = true := dep_on 16 hi (by kernel_rfl)
          have q19 : p19 = true := dep_on 19 hi (by kernel_rfl)
          have q11 : p11 = true := o16 q16
          have q18 : p18 = true := (o19 q19).2
          rw [q2, q6, q7, q9, q10, q11, q15, q16, q18, q19]; rfl)
      · exfalso
        exact hall (by
          have q2 : p2 = true := dep_on 2 hi (by kernel_rfl)
          have q6 : p6 = true := dep_on 6 hi (by kernel_rfl)
          have q7 : p7 = true := dep_on 7 hi (by kernel_rfl)
          have q9 : p9 = true := dep_on 9 hi (by kernel_rfl)
          have q10 : p10 = true := dep_on 10 hi (by kernel_rfl)
          have q15 : p15 = true := dep_on 15 hi (by kernel_rfl)
          have q16 : p16 = true := dep_on 16 hi (by kernel_rfl)
          have q19 : p19 = true := dep_on 19 hi (by kernel_rfl)
          have q11 : p11 = true := o16 q16
          have q18 : p18 = true := (o19 q19).2
          rw [q2, q6, q7, q9, q10, q11, q15, q16, q18, q19]; rfl)

set_option maxRecDepth 100000 in
set_option maxHeartbeats 8000000 in
theorem swant_false (t n : Int) (h : MNew 46 w0 w G b (rscs S)) (hg : SGood S) (hn : S.l.length ≤ 900) (h1 : ¬ t < 1) (h2 : ¬ n < 1) (h3 : ¬ S.size < n) (hm : t ∉ S.who) (hl0 : S.l = []) (hf0 : n ≤ S.free) {e : Int} {S' : SS}
    (h0 : S.l = [] → n ≤ S.free → e = 0 ∧ S' = { S with free := S.free - n }) (h14 : S.l ≠ [] ∨ ¬ n ≤ S.free → e = 14 ∧ S' = { S with l := S.l ++ [(t, n)] }) :
    Calls Try.prog 44 #[.pointer (some ⟨b, 0, none⟩), .int .i64 t, .int .i64 n, .bool false] w fun en w' => en = .returned (.int .i64 e) ∧ StepM 46 w0 G w w' b (rscs S') := by
  have IX := hid (idx_out hm)
  have HH := hid h
  have HG := hid hg
  have H0 := hid h0
  have H14 := hid h14
  have lw : S.who.length ≤ 1000 := by rw [S.who_len]; omega
  have lwi : S.who.length ≤ 900 := by rw [S.who_len]; omega
  have lmi : S.many.length ≤ 900 := by rw [S.many_len]; omega
  obtain ⟨hGb, vs, vW, vM, hM, hvs, v2, v3, oW, oM, c0, c1, c2, c3⟩ := HH.out.rs
  have hb : b < w.heap.size := hM.lt
  have M := hid hM
  have GV := hid hvs
  have V2 := hid v2
  have V3 := hid v3
  have sW : Src w vW S.who.length 1 (flat1 S.who) := oW.src
  have sM : Src w vM S.many.length 1 (flat1 S.many) := oM.src
  obtain ⟨who, hwho⟩ : ∃ l, S.who = l := ⟨_, rfl⟩
  obtain ⟨many, hmany⟩ : ∃ l, S.many = l := ⟨_, rfl⟩
  have famW := Fam.nil w.drew
  have gd1 := HG.out.s16
  have gd2 := HG.out.f0
  have gd3 := HG.out.f1
  obtain ⟨aW, cW, hvW⟩ := oW.form
  have hw0 : S.who.length = 0 := by rw [S.who_len, hl0]; rfl
  rw [hw0] at hvW
  subst hvW
  obtain ⟨T, hT⟩ : ∃ T, S.size - S.free = T := ⟨_, rfl⟩
  have t0 : 0 ≤ T := by omega
  have t1 : T + n ≤ S.size := by omega
  have hsum : IntKind.i64.wrap (T + n) = T + n := IntWalk.i64_in _ ⟨by omega, by omega⟩
  have hle : decide (S.size < T + n) = false := decide_eq_false (by omega)
  rw [hT] at c1
  clear hM hvs v2 v3 h hm h0 h14 hg
  go_enter Try.func44, Try.ntmps44
  go_wp2_with fail
  refine (sat_any t HH.out lw).mono ?_
  rintro _ _ ⟨rfl, rfl⟩
  rw [IX.out]
  go_wp2_with fail
  refine wp_region_text [0,0,0,0,0,0,1,0,0,0,0,0,0,1,0,0,0,0,0,1,0,0,0] (fun _ => True) (by kernel_rfl) (by kernel_rfl) trivial ?_
  repeat (first
    | (refine' wpT_calm (v := _) (by rfl) (fun W hW => ?_) ?_; rotate_left
       · ((try dsimp only at hW); go_simp; first | done | rfl)
       simp only [Act.put, List.setIfInBounds_toArray, List.set_cons_zero, List.set_cons_succ])
    | (refine' wpT_reads (v := _) (by rfl) ?_ ?_; rotate_left
       · (go_simp; first | done | rfl)
       simp only [Act.put, List.setIfInBounds_toArray, List.set_cons_zero, List.set_cons_succ])
    | (refine wpT_skip (by rfl) rfl ?_; simp only [Act.put, List.setIfInBounds_toArray, List.set_cons_zero, List.set_cons_succ])
    | (refine wpT_does (by rfl) (fun K hK => ?_); go_simp; refine hK _ _ ?_ ?_
       · (trivial)
       clear hK K; (try simp only [Act.put]); (try simp only [List.setIfInBounds_toArray, List.set_cons_zero, List.set_cons_succ]))
    | (refine wpT_last (by rfl) (fun K hK => ?_); go_simp; refine hK _ _ ?_; clear hK K)
    | (refine wpT_nil ?_))
  go_wp2_with fail
  have hbD : b < w.drew.drew.heap.size := hb
  have c2D : w.drew.drew.cell? ⟨b, 2, none⟩ = some (.slice aW 0 cW) := c2
  have c3D : w.drew.drew.cell? ⟨b, 3, none⟩ = some vM := c3
  have famD := Fam.nil w.drew.drew
  refine wp_region_pure (by kernel_rfl) ?_
  refine' anyY_pure (v := _) 0 rfl (by kernel_rfl) (by rfl) (fun W => ?_) ?_; rotate_left
  · (go_simp; first | done | rfl)
  (try simp only [Act.put]); (try simp only [List.setIfInBounds_toArray, List.set_cons_zero, List.set_cons_succ])
  refine' anyY_pure (v := _) 1 rfl (by kernel_rfl) (by rfl) (fun W => ?_) ?_; rotate_left
  · (go_simp; first | done | rfl)
  (try simp only [Act.put]); (try simp only [List.setIfInBounds_toArray, List.set_cons_zero, List.set_cons_succ])
  refine' anyY_pure (v := _) 3 rfl (by kernel_rfl) (by rfl) (fun W => ?_) ?_; rotate_left
  · (go_simp; first | done | rfl)
  (try simp only [Act.put]); (try simp only [List.setIfInBounds_toArray, List.set_cons_zero, List.set_cons_succ])
  refine' anyY_pure (v := _) 4 rfl (by kernel_rfl) (by rfl) (fun W => ?_) ?_; rotate_left
  · (go_simp; first | done | rfl)
  (try simp only [Act.put]); (try simp only [List.setIfInBounds_toArray, List.set_cons_zero, List.set_cons_succ])
  refine' anyY_pure (v := _) 5 rfl (by kernel_rfl) (by rfl) (fun W => ?_) ?_; rotate_left
  · (go_simp; first | done | rfl)
  (try simp only [Act.put]); (try simp only [List.setIfInBounds_toArray, List.set_cons_zero, List.set_cons_succ])
  refine' anyY_pure (v := _) 8 rfl (by kernel_rfl) (by rfl) (fun W => ?_) ?_; rotate_left
  · (go_simp; first | done | rfl)
  (try simp only [Act.put]); (try simp only [List.setIfInBounds_toArray, List.set_cons_zero, List.set_cons_succ])
  refine' anyY_pure (v := _) 12 rfl (by kernel_rfl) (by rfl) (fun W => ?_) ?_; rotate_left
  · (go_simp; first | done | rfl)
  (try simp only [Act.put]); (try simp only [List.setIfInBounds_toArray, List.set_cons_zero, List.set_cons_succ])
  refine' anyY_pure (v := _) 13 rfl (by kernel_rfl) (by rfl) (fun W => ?_) ?_; rotate_left
  · (go_simp; first | done | rfl)
  (try simp only [Act.put]); (try simp only [List.setIfInBounds_toArray, List.set_cons_zero, List.set_cons_succ])
  refine' anyY_pure (v := _) 14 rfl (by kernel_rfl) (by rfl) (fun W => ?_) ?_; rotate_left
  · (go_simp; first | done | rfl)
  (try simp only [Act.put]); (try simp only [List.setIfInBounds_toArray, List.set_cons_zero, List.set_cons_succ])
  refine' anyY_pure (v := _) 17 rfl (by kernel_rfl) (by rfl) (fun W => ?_) ?_; rotate_left
  · (go_simp; first | done | rfl)
  (try simp only [Act.put]); (try simp only [List.setIfInBounds_toArray, List.set_cons_zero, List.set_cons_succ])
  simp only [List.getElem_toArray, List.getElem_cons_zero, List.getElem_cons_succ, Act.put, List.setIfInBounds_toArray, List.set_cons_zero, List.set_cons_succ]
  refine anyY_states (WantI w.drew.drew b (.slice aW 0 cW) vM S.who S.many t n) ⟨false, false, false, false, false, false, false, false, false, false, undef, undef, undef, undef, undef, undef, undef, undef, undef, undef, undef, undef, undef, undef, rfl, by simp only [List.getElem_toArray, List.getElem_cons_zero, List.getElem_cons_succ, Act.put, List.setIfInBounds_toArray, List.set_cons_zero, List.set_cons_succ], Keep.refl _ _, famD, (fun h => by cases h), (fun h => by cases h), (fun h => by cases h), (fun h => by cases h), (fun h => by cases h), (fun h => by cases h), (fun h => by cases h), (fun h => by cases h), (fun h => by cases h), (fun h => by cases h), (fun h => by cases h), (fun h => by cases h), (fun h => by cases h), (fun h => by cases h)⟩ (by rfl) ?_
  rintro l act V ⟨p2, p6, p7, p9, p10, p11, p15, p16, p18, p19, v2, v6, v7, v9, v10, v11, v15, v16, v18, v19, X, S9, Y, S18, rfl, rfl, KV, fam, l6, l15, x2, x7, x10, s9, y11, y16, y19, s18, o7, o10, o16, o19⟩
  simp only [List.getElem_toArray, List.getElem_cons_zero, List.getElem_cons_succ, Act.put, List.setIfInBounds_toArray, List.set_cons_zero, List.set_cons_succ]
  by_cases hall : (p2 && p6 && p7 && p9 && p10 && p11 && p15 && p16 && p18 && p19) = true
  · refine .inl ?_
    simp only [Bool.and_eq_true] at hall
    obtain ⟨⟨⟨⟨⟨⟨⟨⟨⟨rfl, rfl⟩, rfl⟩, rfl⟩, rfl⟩, rfl⟩, rfl⟩, rfl⟩, rfl⟩, rfl⟩ := hall
    obtain rfl := l6 rfl
    obtain rfl := l15 rfl
    obtain ⟨rfl, oW'⟩ := x10 rfl
    obtain ⟨rfl, oM'⟩ := y19 rfl
    clear x2 x7 x10 s9 y11 y16 y19 s18 o7 o10 o16 o19 l6 l15
    refine any_exit (n := 6) (by kernel_rfl) (by rfl) ?_
    have bX : ∀ k, X.ownBlock = some k → w.heap.size ≤ k := fun k hk => (fam.bd 0 _ k rfl hk).1
    have bY : ∀ k, Y.ownBlock = some k → w.heap.size ≤ k := fun k hk => (fam.bd 2 _ k rfl hk).1
    have dXY : ∀ k, X.ownBlock = some k → Y.ownBlock ≠ some k := fun k hk => fam.dj 0 2 _ _ k (by decide) rfl rfl hk
    have KVw : Keep (fun _ => False) w V := (Keep.refl _ w).drew.drew.trans KV
    have M2 := two_lists M.out V2.out V3.out KVw oW' oM' bX bY dXY
    have KG : Keep G w ((V.setCell ⟨b, 2, none⟩ X).setCell ⟨b, 3, none⟩ Y) := ((KVw.mono fun _ _ h => h.elim).setCell (.inl hGb) X).setCell (.inl hGb) Y
    have st : StepM 46 w0 G w ((V.setCell ⟨b, 2, none⟩ X).setCell ⟨b, 3, none⟩ Y) b (rsc S.size S.free (S.who ++ [t]) (S.many ++ [n])) := HH.out.on (AfterM.stored M2 KG hGb fun v hv k hk => by
      rcases List.mem_or_eq_of_mem_set hv with hv | rfl
      · rcases List.mem_or_eq_of_mem_set hv with hv | rfl
        · exact .inl (GV.out v hv k hk)
        · exact .inr (bX k hk)
      · exact .inr (bY k hk))
    have ST := hid st
    obtain ⟨aX, cX, hX⟩ := oW'.form
    obtain ⟨aY, cY, hY⟩ := oM'.form
    obtain ⟨m1, hm1⟩ : ∃ m, (S.who ++ [t]).length = m := ⟨_, rfl⟩
    obtain ⟨m2, hm2⟩ : ∃ m, (S.many ++ [n]).length = m := ⟨_, rfl⟩
    rw [hm1] at hX
    rw [hm2] at hY
    have HM1 := hid hm1
    subst hX hY
    have MM0 : MobAt 46 V b (rsc S.size S.free S.who S.many) vs := M.out.keep KVw (fun h => h) (fun _ _ _ _ h => h)
    have d2 := MM0.cell V2.out
    have d3 := MM0.cell V3.out
    have g2 := MM0.fro 2
    have g3 := MM0.fro 3
    clear bX bY dXY KVw M2 KG st oW' oM' fam KV hm1 hm2 MM0
    refine anyY_go [2,2,2,2,2,2,2,2,2,2,2,2,2,2,2,2,2,2,2,2,0,0,2,0,0,3] (fun _ => True) trivial ?_
    refine' anyX_calm (v := _) 20 rfl (by kernel_rfl) (by rfl) (fun W hW => ?_) ?_; rotate_left
    · ((try dsimp only at hW); go_simp; first | done | rfl)
    (try simp only [Act.put]); (try simp only [List.setIfInBounds_toArray, List.set_cons_zero, List.set_cons_succ])
    refine' anyX_calm (v := _) 21 rfl (by kernel_rfl) (by rfl) (fun W hW => ?_) ?_; rotate_left
    · ((try dsimp only at hW); go_simp; first | done | rfl)
    (try simp only [Act.put]); (try simp only [List.setIfInBounds_toArray, List.set_cons_zero, List.set_cons_succ])
    refine anyX_does 22 rfl (by kernel_rfl) (by rfl) (fun K hK => ?_)
    go_simp
    refine hK _ _ trivial ?_
    clear hK K
    simp only [List.getElem_toArray, List.getElem_cons_zero, List.getElem_cons_succ, Act.put, List.setIfInBounds_toArray, List.set_cons_zero, List.set_cons_succ]
    refine' anyX_calm (v := _) 23 rfl (by kernel_rfl) (by rfl) (fun W hW => ?_) ?_; rotate_left
    · ((try dsimp only at hW); go_simp; first | done | rfl)
    (try simp only [Act.put]); (try simp only [List.setIfInBounds_toArray, List.set_cons_zero, List.set_cons_succ])
    refine' anyX_calm (v := _) 24 rfl (by kernel_rfl) (by rfl) (fun W hW => ?_) ?_; rotate_left
    · ((try dsimp only at hW); go_simp; first | done | rfl)
    (try simp only [Act.put]); (try simp only [List.setIfInBounds_toArray, List.set_cons_zero, List.set_cons_succ])
    refine anyX_last 25 rfl (by kernel_rfl) (by rfl) (fun K hK => ?_)
    go_simp
    refine hK _ _ ?_
    clear hK K g2 g3
    by_cases hl : S.l = []
    · have e4 : rsc S.size S.free (S.who ++ [t]) (S.many ++ [n]) = rscs { S with l := [(t, n)] } := by simp [rscs, SS.who, SS.many, hl]
      have GG : SGood { S with l := [(t, n)] } := ⟨HG.out.s1, HG.out.s16, HG.out.f0, HG.out.f1, fun p hp => by obtain rfl := List.mem_singleton.1 hp; exact ⟨by show 1 ≤ t; omega, by show 1 ≤ n; omega, by show n ≤ S.size; omega⟩⟩
      have hlen : m1 = 1 := by rw [← HM1.out]; simp [SS.who, hl]
      subst hlen
      obtain ⟨G2, N2, J2, K2⟩ := ST.out
      rw [e4] at N2
      have N2 := hid N2
      have JK := hid (And.intro J2 K2)
      have HL := hid hl
      clear J2 K2 e4 ST hl
      go_wp2_with fail
      by_cases hf : n ≤ S.free
      · have hsv : srv S.free [(t, n)] = ([t], S.free - n, []) := by rw [srv_cons_yes (by exact hf)]; rfl
        have e5 : rscs { { S with l := [(t, n)] } with free := S.free - n, l := [] } = rscs { S with free := S.free - n } := by rw [HL.out]
        refine (sserve_any N2.out GG (by simp) hsv).mono ?_
        rintro _ W3 ⟨a3, m3, rfl, R3, K3, G3, N3, J3, Q3⟩
        rw [e5] at N3
        have FIN : StepM 46 w0 G w W3 b (rscs { S with free := S.free - n }) := StepM.trans ⟨N2.out, JK.out.1, JK.out.2⟩ ⟨G3, N3, J3, K3⟩
        have FIN := hid FIN
        have RES := hid (H0.out HL.out hf)
        clear K3 J3 Q3 R3 N3 e5
        go_wp2
        go_ret
        rw [RES.out.1, RES.out.2]
        exact ⟨rfl, FIN.out⟩
      · have hsv : srv S.free [(t, n)] = ([], S.free, [(t, n)]) := by rw [srv_cons_no (by exact hf)]
        have e5 : rscs { { S with l := [(t, n)] } with free := S.free, l := [(t, n)] } = rscs { S with l := S.l ++ [(t, n)] } := by rw [HL.out]; rfl
        refine (sserve_any N2.out GG (by simp) hsv).mono ?_
        rintro _ W3 ⟨a3, m3, rfl, R3, K3, G3, N3, J3, Q3⟩
        rw [e5] at N3
        have FIN : StepM 46 w0 G w W3 b (rscs { S with l := S.l ++ [(t, n)] }) := StepM.trans ⟨N2.out, JK.out.1, JK.out.2⟩ ⟨G3, N3, J3, K3⟩
        have FIN := hid FIN
        have RES := hid (H14.out (.inr (by omega)))
        clear K3 J3 Q3 R3 N3 e5
        go_wp2
        go_ret
        rw [RES.out.1, RES.out.2]
        exact ⟨rfl, FIN.out⟩
    · have e4 : rsc S.size S.free (S.who ++ [t]) (S.many ++ [n]) = rscs { S with l := S.l ++ [(t, n)] } := by simp [rscs, SS.who, SS.many]
      have hpos := List.length_pos_iff.2 hl
      have hlen : m1 = S.l.length + 1 := by rw [← HM1.out]; simp [SS.who]
      have hb1 : ((m1 : Int) == 1) = false := by simp; omega
      have FIN := ST.out
      rw [e4] at FIN
      have FIN := hid FIN
      have RES := hid (H14.out (.inl hl))
      clear e4 ST hl hpos hlen
      go_wp2
      go_ret
      rw [RES.out.1, RES.out.2]
      exact ⟨rfl, FIN.out⟩
  · refine .inr ⟨?_, fun i hi => ?_⟩
    · cases p2
      · exact mem_of_depsB (i := 2) rfl (by kernel_rfl)
      cases p6
      · exact mem_of_depsB (i := 6) rfl (by kernel_rfl)
      cases p7
      · exact mem_of_depsB (i := 7) rfl (by kernel_rfl)
      cases p9
      · exact mem_of_depsB (i := 9) rfl (by kernel_rfl)
      cases p10
      · exact mem_of_depsB (i := 10) rfl (by kernel_rfl)
      cases p11
      · exact mem_of_depsB (i := 11) rfl (by kernel_rfl)
      cases p15
      · exact mem_of_depsB (i := 15) rfl (by kernel_rfl)
      cases p16
      · exact mem_of_depsB (i := 16) rfl (by kernel_rfl)
      cases p18
      · exact mem_of_depsB (i := 18) rfl (by kernel_rfl)
      cases p19
      · exact mem_of_depsB (i := 19) rfl (by kernel_rfl)
      exact absurd rfl hall
    · obtain ⟨hi1, hi2, -⟩ := ready_depsB hi
      rcases (by have : i < 26 := hi1; omega : i = 0 ∨ i = 1 ∨ i = 2 ∨ i = 3 ∨ i = 4 ∨ i = 5 ∨ i = 6 ∨ i = 7 ∨ i = 8 ∨ i = 9 ∨ i = 10 ∨ i = 11 ∨ i = 12 ∨ i = 13 ∨ i = 14 ∨ i = 15 ∨ i = 16 ∨ i = 17 ∨ i = 18 ∨ i = 19 ∨ i = 20 ∨ i = 21 ∨ i = 22 ∨ i = 23 ∨ i = 24 ∨ i = 25) with rfl | rfl | rfl | rfl | rfl | rfl | rfl | rfl | rfl | rfl | rfl | rfl | rfl | rfl | rfl | rfl | rfl | rfl | rfl | rfl | rfl | rfl | rfl | rfl | rfl | rfl
      · exact Bool.noConfusion (hi2 : true = false)
      · exact Bool.noConfusion (hi2 : true = false)
      · have qk : p2 = false := hi2
        subst qk
        have k2 : Keep (fun _ => False) V (V.alloc (.cells #[] 3)) := (Keep.refl _ _).alloc _
        have r2 : OwnI (V.alloc (.cells #[] 3)) (.slice (some ⟨V.heap.size, 0, none⟩) 0 0) [] := made_rowI V
        refine wpOp_go rfl (by rfl) (fun K hK => ?_)
        go_simp
        exact hK _ _ ⟨true, p6, p7, p9, p10, p11, p15, p16, p18, p19, _, v6, v7, v9, v10, v11, v15, v16, v18, v19, (.slice (some ⟨V.heap.size, 0, none⟩) 0 0), S9, Y, S18, rfl, by simp only [List.getElem_toArray, List.getElem_cons_zero, List.getElem_cons_succ, Act.put, List.setIfInBounds_toArray, List.set_cons_zero, List.set_cons_succ], KV.trans k2, (fam.set (i := 0) (v' := (.slice (some ⟨V.heap.size, 0, none⟩) 0 0)) rfl k2.size KV.size (fun z hz => by have e := Option.some.inj hz; dsimp only at e; rw [World.size_alloc]; exact ⟨.inr (by omega), by omega⟩)), l6, l15, (fun _ _ => ⟨rfl, r2⟩), (fun h => absurd (o7 h) (by decide)), (fun h => absurd (o7 (o10 h).1) (by decide)), (fun h h' => ⟨(s9 h h').1, (s9 h h').2.keepI k2 (fun _ _ h => h)⟩), (fun h h' => ⟨(y11 h h').1, (y11 h h').2.keep k2 (fun _ _ h => h)⟩), (fun h h' => ⟨(y16 h h').1, (y16 h h').2.keep k2 (fun _ _ h => h)⟩), (fun h => ⟨(y19 h).1, (y19 h).2.keep k2 (fun _ _ h => h)⟩), (fun h h' => ⟨(s18 h h').1, (s18 h h').2.keepI k2 (fun _ _ h => h)⟩), (fun _ => rfl), o10, o16, o19⟩
      · exact Bool.noConfusion (hi2 : true = false)
      · exact Bool.noConfusion (hi2 : true = false)
      · exact Bool.noConfusion (hi2 : true = false)
      · have qk : p6 = false := hi2
        subst qk
        have cc := (KV.cell (p := ⟨b, 2, none⟩) hbD (fun h => h)).trans c2D
        refine wpOp_go rfl (by rfl) (fun K hK => ?_)
        go_simp
        exact hK _ _ ⟨p2, true, p7, p9, p10, p11, p15, p16, p18, p19, v2, _, v7, v9, v10, v11, v15, v16, v18, v19, X, S9, Y, S18, rfl, by simp only [List.getElem_toArray, List.getElem_cons_zero, List.getElem_cons_succ, Act.put, List.setIfInBounds_toArray, List.set_cons_zero, List.set_cons_succ], KV, fam, (fun _ => rfl), l15, x2, x7, x10, s9, y11, y16, y19, s18, o7, o10, o16, o19⟩
      · have qk : p7 = false := hi2
        subst qk
        have q2 : p2 = true := dep_on 2 hi (by kernel_rfl)
        have q6 : p6 = true := dep_on 6 hi (by kernel_rfl)
        obtain ⟨rfl, oX⟩ := x2 q2 rfl
        obtain rfl := l6 q6
        refine wpOp_go rfl (by rfl) (fun K hK => ?_)
        refine wp_append_ints _ (.tmp 52) (.tmp 56) rfl _ [] rfl oX _ S.who.length S.who rfl (sW.keepI ((Keep.refl (fun _ => False) w).drew.drew.trans KV) (fun _ _ h => h)) (by simp; omega) ?_
        intro y W1 o1 f1 k1
        try rw [List.nil_append] at o1
        have KW : Keep (fun _ => False) w.drew.drew W1 := KV.then k1 (fun z hz => .inr (fam.bd 0 _ z rfl hz).1)
        exact hK _ _ ⟨p2, p6, true, p9, p10, p11, p15, p16, p18, p19, X, (.slice aW 0 cW), y, v9, v10, v11, v15, v16, v18, v19, y, S9, Y, S18, rfl, by simp only [List.getElem_toArray, List.getElem_cons_zero, List.getElem_cons_succ, Act.put, List.setIfInBounds_toArray, List.set_cons_zero, List.set_cons_succ], KW, (fam.set (i := 0) (v' := y) rfl k1.size KV.size (fun z hz => ⟨f1 z hz, own_lt o1 hz⟩)), l6, l15, (fun _ h => by cases h), (fun _ _ => ⟨rfl, o1⟩), (fun h => absurd (o10 h).1 (by decide)), (fun h h' => ⟨(s9 h h').1, (s9 h h').2.keepI k1 (fun z hz h => fam.dj 0 1 _ _ z (by decide) rfl rfl h hz)⟩), (fun h h' => ⟨(y11 h h').1, (y11 h h').2.keep k1 (fun z hz h => fam.dj 0 2 _ _ z (by decide) rfl rfl h hz)⟩), (fun h h' => ⟨(y16 h h').1, (y16 h h').2.keep k1 (fun z hz h => fam.dj 0 2 _ _ z (by decide) rfl rfl h hz)⟩), (fun h => ⟨(y19 h).1, (y19 h).2.keep k1 (fun z hz h => fam.dj 0 2 _ _ z (by decide) rfl rfl h hz)⟩), (fun h h' => ⟨(s18 h h').1, (s18 h h').2.keepI k1 (fun z hz h => fam.dj 0 3 _ _ z (by decide) rfl rfl h hz)⟩), (fun _ => q2), (fun h => absurd (o10 h).1 (by decide)), o16, o19⟩
      · exact Bool.noConfusion (hi2 : true = false)
      · have qk : p9 = false := hi2
        subst qk
        have k2 : Keep (fun _ => False) V (V.alloc (.cells #[.int .i64 t] 3)) := (Keep.refl _ _).alloc _
        have r2 : Src (V.alloc (.cells #[.int .i64 t] 3)) (.slice (some ⟨V.heap.size, 0, none⟩) 1 1) 1 1 (flat1 [t]) := one_srcI V t
        refine wpOp_go rfl (by rfl) (fun K hK => ?_)
        go_simp
        exact hK _ _ ⟨p2, p6, p7, true, p10, p11, p15, p16, p18, p19, v2, v6, v7, _, v10, v11, v15, v16, v18, v19, X, (.slice (some ⟨V.heap.size, 0, none⟩) 1 1), Y, S18, rfl, by simp only [List.getElem_toArray, List.getElem_cons_zero, List.getElem_cons_succ, Act.put, List.setIfInBounds_toArray, List.set_cons_zero, List.set_cons_succ], KV.trans k2, (fam.set (i := 1) (v' := (.slice (some ⟨V.heap.size, 0, none⟩) 1 1)) rfl k2.size KV.size (fun z hz => by have e := Option.some.inj hz; dsimp only at e; rw [World.size_alloc]; exact ⟨.inr (by omega), by omega⟩)), l6, l15, (fun h h' => ⟨(x2 h h').1, (x2 h h').2.keep k2 (fun _ _ h => h)⟩), (fun h h' => ⟨(x7 h h').1, (x7 h h').2.keep k2 (fun _ _ h => h)⟩), (fun h => absurd (o10 h).2 (by decide)), (fun _ _ => ⟨rfl, r2⟩), (fun h h' => ⟨(y11 h h').1, (y11 h h').2.keep k2 (fun _ _ h => h)⟩), (fun h h' => ⟨(y16 h h').1, (y16 h h').2.keep k2 (fun _ _ h => h)⟩), (fun h => ⟨(y19 h).1, (y19 h).2.keep k2 (fun _ _ h => h)⟩), (fun h h' => ⟨(s18 h h').1, (s18 h h').2.keepI k2 (fun _ _ h => h)⟩), o7, (fun h => ⟨(o10 h).1, rfl⟩), o16, o19⟩
      · have qk : p10 = false := hi2
        subst qk
        have q7 : p7 = true := dep_on 7 hi (by kernel_rfl)
        have q9 : p9 = true := dep_on 9 hi (by kernel_rfl)
        obtain ⟨rfl, oX⟩ := x7 q7 rfl
        obtain ⟨rfl, sX⟩ := s9 q9 rfl
        refine wpOp_go rfl (by rfl) (fun K hK => ?_)
        refine wp_append_ints _ (.tmp 57) (.tmp 59) rfl _ S.who rfl oX _ 1 [t] rfl sX (by omega) ?_
        intro y W1 o1 f1 k1
        try rw [List.nil_append] at o1
        have KW : Keep (fun _ => False) w.drew.drew W1 := KV.then k1 (fun z hz => .inr (fam.bd 0 _ z rfl hz).1)
        exact hK _ _ ⟨p2, p6, p7, p9, true, p11, p15, p16, p18, p19, v2, v6, X, S9, y, v11, v15, v16, v18, v19, y, S9, Y, S18, rfl, by simp only [List.getElem_toArray, List.getElem_cons_zero, List.getElem_cons_succ, Act.put, List.setIfInBounds_toArray, List.set_cons_zero, List.set_cons_succ], KW, (fam.set (i := 0) (v' := y) rfl k1.size KV.size (fun z hz => ⟨f1 z hz, own_lt o1 hz⟩)), l6, l15, (fun _ h => by rw [q7] at h; cases h), (fun _ h => by cases h), (fun _ => ⟨rfl, o1⟩), (fun _ h => by cases h), (fun h h' => ⟨(y11 h h').1, (y11 h h').2.keep k1 (fun z hz h => fam.dj 0 2 _ _ z (by decide) rfl rfl h hz)⟩), (fun h h' => ⟨(y16 h h').1, (y16 h h').2.keep k1 (fun z hz h => fam.dj 0 2 _ _ z (by decide) rfl rfl h hz)⟩), (fun h => ⟨(y19 h).1, (y19 h).2.keep k1 (fun z hz h => fam.dj 0 2 _ _ z (by decide) rfl rfl h hz)⟩), (fun h h' => ⟨(s18 h h').1, (s18 h h').2.keepI k1 (fun z hz h => fam.dj 0 3 _ _ z (by decide) rfl rfl h hz)⟩), o7, (fun _ => ⟨q7, q9⟩), o16, o19⟩
      · have qk : p11 = false := hi2
        subst qk
        have k2 : Keep (fun _ => False) V (V.alloc (.cells #[] 3)) := (Keep.refl _ _).alloc _
        have r2 : OwnI (V.alloc (.cells #[] 3)) (.slice (some ⟨V.heap.size, 0, none⟩) 0 0) [] := made_rowI V
        refine wpOp_go rfl (by rfl) (fun K hK => ?_)
        go_simp
        exact hK _ _ ⟨p2, p6, p7, p9, p10, true, p15, p16, p18, p19, v2, v6, v7, v9, v10, _, v15, v16, v18, v19, X, S9, (.slice (some ⟨V.heap.size, 0, none⟩) 0 0), S18, rfl, by simp only [List.getElem_toArray, List.getElem_cons_zero, List.getElem_cons_succ, Act.put, List.setIfInBounds_toArray, List.set_cons_zero, List.set_cons_succ], KV.trans k2, (fam.set (i := 2) (v' := (.slice (some ⟨V.heap.size, 0, none⟩) 0 0)) rfl k2.size KV.size (fun z hz => by have e := Option.some.inj hz; dsimp only at e; rw [World.size_alloc]; exact ⟨.inr (by omega), by omega⟩)), l6, l15, (fun h h' => ⟨(x2 h h').1, (x2 h h').2.keep k2 (fun _ _ h => h)⟩), (fun h h' => ⟨(x7 h h').1, (x7 h h').2.keep k2 (fun _ _ h => h)⟩), (fun h => ⟨(x10 h).1, (x10 h).2.keep k2 (fun _ _ h => h)⟩), (fun h h' => ⟨(s9 h h').1, (s9 h h').2.keepI k2 (fun _ _ h => h)⟩), (fun _ _ => ⟨rfl, r2⟩), (fun h => absurd (o16 h) (by decide)), (fun h => absurd (o16 (o19 h).1) (by decide)), (fun h h' => ⟨(s18 h h').1, (s18 h h').2.keepI k2 (fun _ _ h => h)⟩), o7, o10, (fun _ => rfl), o19⟩
      · exact Bool.noConfusion (hi2 : true = false)
      · exact Bool.noConfusion (hi2 : true = false)
      · exact Bool.noConfusion (hi2 : true = false)
      · have qk : p15 = false := hi2
        subst qk
        have cc := (KV.cell (p := ⟨b, 3, none⟩) hbD (fun h => h)).trans c3D
        refine wpOp_go rfl (by rfl) (fun K hK => ?_)
        go_simp
        exact hK _ _ ⟨p2, p6, p7, p9, p10, p11, true, p16, p18, p19, v2, v6, v7, v9, v10, v11, _, v16, v18, v19, X, S9, Y, S18, rfl, by simp only [List.getElem_toArray, List.getElem_cons_zero, List.getElem_cons_succ, Act.put, List.setIfInBounds_toArray, List.set_cons_zero, List.set_cons_succ], KV, fam, l6, (fun _ => rfl), x2, x7, x10, s9, y11, y16, y19, s18, o7, o10, o16, o19⟩
      · have qk : p16 = false := hi2
        subst qk
        have q11 : p11 = true := dep_on 11 hi (by kernel_rfl)
        have q15 : p15 = true := dep_on 15 hi (by kernel_rfl)
        obtain ⟨rfl, oX⟩ := y11 q11 rfl
        obtain rfl := l15 q15
        refine wpOp_go rfl (by rfl) (fun K hK => ?_)
        refine wp_append_ints _ (.tmp 61) (.tmp 65) rfl _ [] rfl oX _ S.many.length S.many rfl (sM.keepI ((Keep.refl (fun _ => False) w).drew.drew.trans KV) (fun _ _ h => h)) (by simp; omega) ?_
        intro y W1 o1 f1 k1
        try rw [List.nil_append] at o1
        have KW : Keep (fun _ => False) w.drew.drew W1 := KV.then k1 (fun z hz => .inr (fam.bd 2 _ z rfl hz).1)
        exact hK _ _ ⟨p2, p6, p7, p9, p10, p11, p15, true, p18, p19, v2, v6, v7, v9, v10, Y, vM, y, v18, v19, X, S9, y, S18, rfl, by simp only [List.getElem_toArray, List.getElem_cons_zero, List.getElem_cons_succ, Act.put, List.setIfInBounds_toArray, List.set_cons_zero, List.set_cons_succ], KW, (fam.set (i := 2) (v' := y) rfl k1.size KV.size (fun z hz => ⟨f1 z hz, own_lt o1 hz⟩)), l6, l15, (fun h h' => ⟨(x2 h h').1, (x2 h h').2.keep k1 (fun z hz h => fam.dj 2 0 _ _ z (by decide) rfl rfl h hz)⟩), (fun h h' => ⟨(x7 h h').1, (x7 h h').2.keep k1 (fun z hz h => fam.dj 2 0 _ _ z (by decide) rfl rfl h hz)⟩), (fun h => ⟨(x10 h).1, (x10 h).2.keep k1 (fun z hz h => fam.dj 2 0 _ _ z (by decide) rfl rfl h hz)⟩), (fun h h' => ⟨(s9 h h').1, (s9 h h').2.keepI k1 (fun z hz h => fam.dj 2 1 _ _ z (by decide) rfl rfl h hz)⟩), (fun _ h => by cases h), (fun _ _ => ⟨rfl, o1⟩), (fun h => absurd (o19 h).1 (by decide)), (fun h h' => ⟨(s18 h h').1, (s18 h h').2.keepI k1 (fun z hz h => fam.dj 2 3 _ _ z (by decide) rfl rfl h hz)⟩), o7, o10, (fun _ => q11), (fun h => absurd (o19 h).1 (by decide))⟩
      · exact Bool.noConfusion (hi2 : true = false)
      · have qk : p18 = false := hi2
        subst qk
        have k2 : Keep (fun _ => False) V (V.alloc (.cells #[.int .i64 n] 3)) := (Keep.refl _ _).alloc _
        have r2 : Src (V.alloc (.cells #[.int .i64 n] 3)) (.slice (some ⟨V.heap.size, 0, none⟩) 1 1) 1 1 (flat1 [n]) := one_srcI V n
        refine wpOp_go rfl (by rfl) (fun K hK => ?_)
        go_simp
        exact hK _ _ ⟨p2, p6, p7, p9, p10, p11, p15, p16, true, p19, v2, v6, v7, v9, v10, v11, v15, v16, _, v19, X, S9, Y, (.slice (some ⟨V.heap.size, 0, none⟩) 1 1), rfl, by simp only [List.getElem_toArray, List.getElem_cons_zero, List.getElem_cons_succ, Act.put, List.setIfInBounds_toArray, List.set_cons_zero, List.set_cons_succ], KV.trans k2, (fam.set (i := 3) (v' := (.slice (some ⟨V.heap.size, 0, none⟩) 1 1)) rfl k2.size KV.size (fun z hz => by have e := Option.some.inj hz; dsimp only at e; rw [World.size_alloc]; exact ⟨.inr (by omega), by omega⟩)), l6, l15, (fun h h' => ⟨(x2 h h').1, (x2 h h').2.keep k2 (fun _ _ h => h)⟩), (fun h h' => ⟨(x7 h h').1, (x7 h h').2.keep k2 (fun _ _ h => h)⟩), (fun h => ⟨(x10 h).1, (x10 h).2.keep k2 (fun _ _ h => h)⟩), (fun h h' => ⟨(s9 h h').1, (s9 h h').2.keepI k2 (fun _ _ h => h)⟩), (fun h h' => ⟨(y11 h h').1, (y11 h h').2.keep k2 (fun _ _ h => h)⟩), (fun h h' => ⟨(y16 h h').1, (y16 h h').2.keep k2 (fun _ _ h => h)⟩), (fun h => absurd (o19 h).2 (by decide)), (fun _ _ => ⟨rfl, r2⟩), o7, o10, o16, (fun h => ⟨(o19 h).1, rfl⟩)⟩
      · have qk : p19 = false := hi2
        subst qk
        have q16 : p16 = true := dep_on 16 hi (by kernel_rfl)
        have q18 : p18 = true := dep_on 18 hi (by kernel_rfl)
        obtain ⟨rfl, oX⟩ := y16 q16 rfl
        obtain ⟨rfl, sX⟩ := s18 q18 rfl
        refine wpOp_go rfl (by rfl) (fun K hK => ?_)
        refine wp_append_ints _ (.tmp 66) (.tmp 68) rfl _ S.many rfl oX _ 1 [n] rfl sX (by omega) ?_
        intro y W1 o1 f1 k1
        try rw [List.nil_append] at o1
        have KW : Keep (fun _ => False) w.drew.drew W1 := KV.then k1 (fun z hz => .inr (fam.bd 2 _ z rfl hz).1)
        exact hK _ _ ⟨p2, p6, p7, p9, p10, p11, p15, p16, p18, true, v2, v6, v7, v9, v10, v11, v15, Y, S18, y, X, S9, y, S18, rfl, by simp only [List.getElem_toArray, List.getElem_cons_zero, List.getElem_cons_succ, Act.put, List.setIfInBounds_toArray, List.set_cons_zero, List.set_cons_succ], KW, (fam.set (i := 2) (v' := y) rfl k1.size KV.size (fun z hz => ⟨f1 z hz, own_lt o1 hz⟩)), l6, l15, (fun h h' => ⟨(x2 h h').1, (x2 h h').2.keep k1 (fun z hz h => fam.dj 2 0 _ _ z (by decide) rfl rfl h hz)⟩), (fun h h' => ⟨(x7 h h').1, (x7 h h').2.keep k1 (fun z hz h => fam.dj 2 0 _ _ z (by decide) rfl rfl h hz)⟩), (fun h => ⟨(x10 h).1, (x10 h).2.keep k1 (fun z hz h => fam.dj 2 0 _ _ z (by decide) rfl rfl h hz)⟩), (fun h h' => ⟨(s9 h h').1, (s9 h h').2.keepI k1 (fun z hz h => fam.dj 2 1 _ _ z (by decide) rfl rfl h hz)⟩), (fun _ h => by rw [q16] at h; cases h), (fun _ h => by cases h), (fun _ => ⟨rfl, o1⟩), (fun _ h => by cases h), o7, o10, o16, (fun _ => ⟨q16, q18⟩)⟩
      · exfalso
        exact hall (by
          have q2 : p2 = true := dep_on 2 hi (by kernel_rfl)
          have q6 : p6 = true := dep_on 6 hi (by kernel_rfl)
          have q7 : p7 = true := dep_on 7 hi (by kernel_rfl)
          have q9 : p9 = true := dep_on 9 hi (by kernel_rfl)
          have q10 : p10 = true := dep_on 10 hi (by kernel_rfl)
          have q15 : p15 = true := dep_on 15 hi (by kernel_rfl)
          have q16 : p16 = true := dep_on 16 hi (by kernel_rfl)
          have q19 : p19 = true := dep_on 19 hi (by kernel_rfl)
          have q11 : p11 = true := o16 q16
          have q18 : p18 = true := (o19 q19).2
          rw [q2, q6, q7, q9, q10, q11, q15, q16, q18, q19]; rfl)
      · exfalso
        exact hall (by
          have q2 : p2 = true := dep_on 2 hi (by kernel_rfl)
          have q6 : p6 = true := dep_on 6 hi (by kernel_rfl)
          have q7 : p7 = true := dep_on 7 hi (by kernel_rfl)
          have q9 : p9 = true := dep_on 9 hi (by kernel_rfl)
          have q10 : p10 = true := dep_on 10 hi (by kernel_rfl)
          have q15 : p15 = true := dep_on 15 hi (by kernel_rfl)
          have q16 : p16 = true := dep_on 16 hi (by kernel_rfl)
          have q19 : p19 = true := dep_on 19 hi (by kernel_rfl)
          have q11 : p11 = true := o16 q16
          have q18 : p18 = true := (o19 q19).2
          rw [q2, q6, q7, q9, q10, q11, q15, q16, q18, q19]; rfl)
      · exfalso
        exact hall (by
          have q2 : p2 = true := dep_on 2 hi (by kernel_rfl)
          have q6 : p6 = true := dep_on 6 hi (by kernel_rfl)
          have q7 : p7 = true := dep_on 7 hi (by kernel_rfl)
          have q9 : p9 = true := dep_on 9 hi (by kernel_rfl)
          have q10 : p10 = true := dep_on 10 hi (by kernel_rfl)
          have q15 : p15 = true := dep_on 15 hi (by kernel_rfl)
          have q16 : p16 = true := dep_on 16 hi (by kernel_rfl)
          have q19 : p19 = true := dep_on 19 hi (by kernel_rfl)
          have q11 : p11 = true := o16 q16
          have q18 : p18 = true := (o19 q19).2
          rw [q2, q6, q7, q9, q10, q11, q15, q16, q18, q19]; rfl)
      · exfalso
        exact hall (by
          have q2 : p2 = true := dep_on 2 hi (by kernel_rfl)
          have q6 : p6 = true := dep_on 6 hi (by kernel_rfl)
          have q7 : p7 = true := dep_on 7 hi (by kernel_rfl)
          have q9 : p9 = true := dep_on 9 hi (by kernel_rfl)
          have q10 : p10 = true := dep_on 10 hi (by kernel_rfl)
          have q15 : p15 = true := dep_on 15 hi (by kernel_rfl)
          have q16 : p16 = true := dep_on 16 hi (by kernel_rfl)
          have q19 : p19 = true := dep_on 19 hi (by kernel_rfl)
          have q11 : p11 = true := o16 q16
          have q18 : p18 = true := (o19 q19).2
          rw [q2, q6, q7, q9, q10, q11, q15, q16, q18, q19]; rfl)
      · exfalso
        exact hall (by
          have q2 : p2 = true := dep_on 2 hi (by kernel_rfl)
          have q6 : p6 = true := dep_on 6 hi (by kernel_rfl)
          have q7 : p7 = true := dep_on 7 hi (by kernel_rfl)
          have q9 : p9 = true := dep_on 9 hi (by kernel_rfl)
          have q10 : p10 = true := dep_on 10 hi (by kernel_rfl)
          have q15 : p15 = true := dep_on 15 hi (by kernel_rfl)
          have q16 : p16 = true := dep_on 16 hi (by kernel_rfl)
          have q19 : p19 = true := dep_on 19 hi (by kernel_rfl)
          have q11 : p11 = true := o16 q16
          have q18 : p18 = true := (o19 q19).2
          rw [q2, q6, q7, q9, q10, q11, q15, q16, q18, q19]; rfl)
      · exfalso
        exact hall (by
          have q2 : p2 = true := dep_on 2 hi (by kernel_rfl)
          have q6 : p6 = true := dep_on 6 hi (by kernel_rfl)
          have q7 : p7 = true := dep_on 7 hi (by kernel_rfl)
          have q9 : p9 = true := dep_on 9 hi (by kernel_rfl)
          have q10 : p10 = true := dep_on 10 hi (by kernel_rfl)
          have q15 : p15 = true := dep_on 15 hi (by kernel_rfl)
          have q16 : p16 = true := dep_on 16 hi (by kernel_rfl)
          have q19 : p19 = true := dep_on 19 hi (by kernel_rfl)
          have q11 : p11 = true := o16 q16
          have q18 : p18 = true := (o19 q19).2
          rw [q2, q6, q7, q9, q10, q11, q15, q16, q18, q19]; rfl)
end
end Go.Proofs.Ytegpoocmhamlpaa
