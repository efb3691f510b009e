/- The walks of package sema: serve, Release, Drop, Waits; of a Sema that is nil. -/
import Derived.Test.YtegpoocmhamlpaaSmB
namespace Go.Proofs.Ytegpoocmhamlpaa
open Go Go.RowKit

/-- Who is served, how many are free then, and who still waits. -/
def srv : Int → List (Int × Int) → List Int × Int × List (Int × Int)
  | f, [] => ([], f, [])
  | f, p :: l => if p.2 ≤ f then (p.1 :: (srv (f - p.2) l).1, (srv (f - p.2) l).2) else ([], f, p :: l)

theorem srv_cons_yes {f : Int} {p : Int × Int} {l : List (Int × Int)} (h : p.2 ≤ f) : srv f (p :: l) = (p.1 :: (srv (f - p.2) l).1, (srv (f - p.2) l).2) := by rw [srv, if_pos h]
theorem srv_cons_no {f : Int} {p : Int × Int} {l : List (Int × Int)} (h : ¬ p.2 ≤ f) : srv f (p :: l) = ([], f, p :: l) := by rw [srv, if_neg h]

def slen : Value → Nat
  | .slice _ n _ => n
  | _ => 0

section
variable {w0 w : World} {G : Nat → Prop} {b : Nat} {S : SS}

set_option maxRecDepth 10000 in
set_option maxHeartbeats 4000000 in
theorem mserve_any (h : MNew 69 w0 w G b (scs S)) (hg : SGood S) (hn : S.l.length ≤ 1000) {o : List Int} {f' : Int} {l' : List (Int × Int)} (hb : srv S.free S.l = (o, f', l')) :
    Calls Try.prog 39 #[.pointer (some ⟨b, 0, none⟩)] w fun en w' => ∃ a m, en = .returned (.slice a o.length m) ∧ OutM 69 w0 G w w' b (scs { S with free := f', l := l' }) a m o := by
  have HH := hid h
  have HB := hid hb
  have HG := hid hg
  clear h hb hg
  go_enter Try.func39, Try.ntmps39
  go_wp2_with fail
  go_loopw [3] (fun r wr => ∃ (o1 : List Int) (f1 : Int) (l1 : List (Int × Int)) (a : Option Addr) (c : Nat) (G1 : Nat → Prop), r = .slice a o1.length c ∧ srv S.free S.l = (o1 ++ (srv f1 l1).1, (srv f1 l1).2) ∧ o1.length + l1.length = S.l.length ∧ SGood { S with free := f1, l := l1 } ∧
    OwnI wr (.slice a o1.length c) o1 ∧ MNew 69 w0 wr G1 b (scs { S with free := f1, l := l1 }) ∧ (∀ k, G1 k → G k ∨ w.heap.size ≤ k) ∧ Keep G w wr ∧ ∀ x, (Value.slice a o1.length c).ownBlock = some x → w.heap.size ≤ x ∧ ¬ G1 x) (fun r _ => S.l.length - slen r)
  case atStart => exact ⟨[], S.free, S.l, _, _, G, rfl, rfl, by simp, HG.out, OwnI.nil _, HH.out, fun _ h => .inl h, Keep.refl _ _, fun x hx => by simp [Value.ownBlock] at hx⟩
  case round =>
    obtain ⟨o1, f1, l1, a, c, G1, rfl, hsrv, hlen, hgd, hO, hN, hJ, hK, hD⟩ := hrel
    have O := hid hO
    have N := hid hN
    have J := hid hJ
    have K0 := hid hK
    have D := hid hD
    have GD := hid hgd
    have SV := hid hsrv
    clear hO hN hJ hK hD hgd hsrv
    obtain ⟨hGb, vs, vL, hM, hvs, v2, oL, c0, c1, c2⟩ := N.out.sm
    dsimp only at c1
    -- the end
    have fin : (srv f1 l1).1 = [] → (srv f1 l1).2 = (f1, l1) → o = o1 ∧ f' = f1 ∧ l' = l1 := fun e1 e2 => by
      have := SV.out
      rw [HB.out, e1, e2, List.append_nil] at this
      cases this
      exact ⟨rfl, rfl, rfl⟩
    have FIN := hid fin
    clear fin
    cases l1 with
    | nil =>
      obtain ⟨aL, cL, hv⟩ := oL.form
      simp only [List.length_nil] at hv
      rw [hv] at c2
      clear hv oL v2 hM hvs
      go_wp2_with fail
      refine wp_region_text [0,0,0,1,0,0,0,0,0,0,1,0,0,1,0,0,0,1,0,0] (fun _ => True) (by kernel_rfl) (by kernel_rfl) trivial ?_
      repeat (first
        | (refine' wpT_calm (v := _) (by rfl) (fun W hW => ?_) ?_; rotate_left
           · ((try dsimp only at hW); go_simp; first | done | rfl)
           simp only [Act.put, List.setIfInBounds_toArray, List.set_cons_zero, List.set_cons_succ])
        | (refine' wpT_reads (v := _) (by rfl) ?_ ?_; rotate_left
           · (go_simp; first | done | rfl)
           simp only [Act.put, List.setIfInBounds_toArray, List.set_cons_zero, List.set_cons_succ])
        | (refine wpT_skip (by rfl) rfl ?_; simp only [Act.put, List.setIfInBounds_toArray, List.set_cons_zero, List.set_cons_succ])
        | (refine wpT_does (by rfl) (fun K hK => ?_); go_simp; refine hK _ _ ?_ ?_
           · (trivial)
           clear hK K; try simp only [Act.put, List.setIfInBounds_toArray, List.set_cons_zero, List.set_cons_succ])
        | (refine wpT_last (by rfl) (fun K hK => ?_); go_simp; refine hK _ _ ?_; clear hK K)
        | (refine wpT_nil ?_))
      go_wp2_with fail
      obtain ⟨rfl, rfl, rfl⟩ := FIN.out rfl rfl
      refine (clip_any a o.length c (own_cap O.out)).mono ?_
      rintro _ w2 ⟨rfl, rfl⟩
      go_wp2
      go_ret
      refine ⟨_, _, rfl, ?_⟩
      have K1 : Keep (fun _ => False) wr wr.drew := (Keep.refl _ _).drew
      have O1 := O.out.keep K1 (fun _ _ h => h)
      exact ⟨O1.reads.recap, K0.out.then K1 (fun _ h => h.elim), G1, N.out.quiet K1, J.out, fun k hk => by
        have hk' : (Value.slice a o.length c).ownBlock = some k := by cases a <;> exact hk
        exact ⟨.inr (D.out k hk').1, own_lt O1 hk', (D.out k hk').2⟩⟩
    | cons p l2 =>
      obtain ⟨g, cL, hv, hgs, hmx, hc⟩ := oL.cells (by simp)
      have hc0 := hc 0 (by simp)
      obtain ⟨m, hm⟩ : ∃ m : Nat, (p :: l2).length = m := ⟨_, rfl⟩
      rw [hm] at hv
      have hmp : 0 < m := by rw [← hm]; simp
      have hmp' : (0 : Int) < (m : Int) := by omega
      have k1 : wr.cell? ⟨g, 0, none⟩ = some (.int .i64 p.1) := hc0.1
      have k2 : wr.cell? ⟨g, 1, none⟩ = some (.int .i64 p.2) := hc0.2
      rw [hv] at c2
      have HM := hid hm
      clear hv oL v2 hM hvs hc hc0 hm hmx
      by_cases hp : p.2 ≤ f1
      · go_wp2_with fail
        refine wp_region_text [0,0,0,1,0,0,0,0,0,0,1,0,0,1,0,0,0,1,0,0] (fun _ => True) (by kernel_rfl) (by kernel_rfl) trivial ?_
        repeat (first
          | (refine' wpT_calm (v := _) (by rfl) (fun W hW => ?_) ?_; rotate_left
             · ((try dsimp only at hW); go_simp; first | done | rfl)
             simp only [Act.put, List.setIfInBounds_toArray, List.set_cons_zero, List.set_cons_succ])
          | (refine' wpT_reads (v := _) (by rfl) ?_ ?_; rotate_left
             · (go_simp; first | done | rfl)
             simp only [Act.put, List.setIfInBounds_toArray, List.set_cons_zero, List.set_cons_succ])
          | (refine wpT_skip (by rfl) rfl ?_; simp only [Act.put, List.setIfInBounds_toArray, List.set_cons_zero, List.set_cons_succ])
          | (refine wpT_does (by rfl) (fun K hK => ?_); go_simp; refine hK _ _ ?_ ?_
             · (trivial)
             clear hK K; try simp only [Act.put, List.setIfInBounds_toArray, List.set_cons_zero, List.set_cons_succ])
          | (refine wpT_last (by rfl) (fun K hK => ?_); go_simp; refine hK _ _ ?_; clear hK K)
          | (refine wpT_nil ?_))
        have z1 := N.out.1.2.2
        have hfr : wr.frozen? ⟨b, 1, none⟩ = false := by obtain ⟨_, hM, _⟩ := z1; exact hM.fro 1
        have gd1 := GD.out.s16
        have gd2 := GD.out.f0
        have gd3 := GD.out.f1
        dsimp only at gd1 gd2 gd3
        have gd4 : 1 ≤ p.2 := (GD.out.l p (by simp)).2.1
        have hsub : IntKind.i64.wrap (f1 - p.2) = f1 - p.2 := IntWalk.i64_in _ ⟨by omega, by omega⟩
        clear z1
        go_wp2_with fail
        refine wp_region_text [0,0,0,1,0,0,0,1,0,0,1,0,0,0,3] (fun _ => True) (by kernel_rfl) (by kernel_rfl) trivial ?_
        repeat (first
          | (refine' wpT_calm (v := _) (by rfl) (fun W hW => ?_) ?_; rotate_left
             · ((try dsimp only at hW); go_simp; first | done | rfl)
             simp only [Act.put, List.setIfInBounds_toArray, List.set_cons_zero, List.set_cons_succ])
          | (refine' wpT_reads (v := _) (by rfl) ?_ ?_; rotate_left
             · (go_simp; first | done | rfl)
             simp only [Act.put, List.setIfInBounds_toArray, List.set_cons_zero, List.set_cons_succ])
          | (refine wpT_skip (by rfl) rfl ?_; simp only [Act.put, List.setIfInBounds_toArray, List.set_cons_zero, List.set_cons_succ])
          | (refine wpT_does (by rfl) (fun K hK => ?_); go_simp; refine hK _ _ ?_ ?_
             · (trivial)
             clear hK K; try simp only [Act.put, List.setIfInBounds_toArray, List.set_cons_zero, List.set_cons_succ])
          | (refine wpT_last (by rfl) (fun K hK => ?_); go_simp; refine hK _ _ ?_; clear hK K)
          | (refine wpT_nil ?_))
        have st1 : StepM 69 w0 G1 wr (wr.setCell ⟨b, 1, none⟩ (.int .i64 (f1 - p.2))) b (scs { S with free := f1 - p.2, l := p :: l2 }) := N.out.scal (i := 1) (by simp [scs]) _ rfl
        obtain ⟨G2, N2, J2, K2⟩ := st1
        have kd : Keep (fun _ => False) (wr.setCell ⟨b, 1, none⟩ (.int .i64 (f1 - p.2))) (wr.setCell ⟨b, 1, none⟩ (.int .i64 (f1 - p.2))).drew.drew := (Keep.refl _ _).drew.drew
        have K2 : Keep G1 wr (wr.setCell ⟨b, 1, none⟩ (.int .i64 (f1 - p.2))).drew.drew := K2.then kd (fun _ h => h.elim)
        have N2 := N2.quiet kd
        have O2 := O.out.keep K2 (fun x hx => (D.out x hx).2)
        have D2 : ∀ x, (Value.slice a o1.length c).ownBlock = some x → w.heap.size ≤ x ∧ ¬ G2 x := fun x hx => ⟨(D.out x hx).1, fun h => (J2 x h).elim (D.out x hx).2 (fun h => by have := own_lt O.out hx; omega)⟩
        clear kd k1 k2 c1 c2 hfr
        generalize (wr.setCell ⟨b, 1, none⟩ (.int .i64 (f1 - p.2))).drew.drew = W1 at K2 N2 O2 ⊢
        obtain ⟨hGb2, vs2, vL2, hM2, hvs2, v22, oL2, -, -, ee⟩ := N2.sm
        obtain ⟨g2, cL2, hv2, hgs2, hmx2, hc2⟩ := oL2.cells (by simp)
        have hc0 := hc2 0 (by simp)
        have k1 : W1.cell? ⟨g2, 0, none⟩ = some (.int .i64 p.1) := hc0.1
        have e2 : W1.cell? ⟨b, 2, none⟩ = some (.slice (some ⟨g2, 0, none⟩) m cL2) := by rw [ee, hv2, ← HM.out]
        have N2 := hid N2
        have O2 := hid O2
        have D2 := hid D2
        have JK2 := hid (And.intro J2 K2)
        clear ee hc2 hc0 hv2 oL2 v22 hM2 hvs2 hmx2 J2 K2
        have k3 : Keep (fun _ => False) W1 (W1.alloc (.cells #[.int .i64 p.1] 3)) := (Keep.refl _ _).alloc _
        have hown := O2.out.keep k3 (fun _ _ h => h)
        have hsrc := one_srcI W1 p.1
        go_wp2_with (at_builtin; refine wpList_plain rfl (fun K hK => wp_append_ints _ (.tmp 38) (.tmp 46) rfl _ o1 rfl hown _ 1 _ rfl hsrc (by omega) ?_))
        intro y w5 o5 f5 k5
        have KA : Keep G w W1 := K0.out.then JK2.out.2 J.out
        have W0 := HH.out.2.2.size
        have D5 : ∀ x, y.ownBlock = some x → w.heap.size ≤ x ∧ ¬ G2 x := fun x hx => (f5 x hx).elim (D2.out x) (fun h => ⟨by have := KA.size; omega, fun hg => by have := N2.out.1.2.1 x hg; omega⟩)
        have N5 := (N2.out.quiet k3).keep k5 (fun x hx => ⟨Nat.le_trans W0 (D2.out x hx).1, (D2.out x hx).2⟩)
        have KC : Keep G w w5 := (KA.alloc _).then k5 (fun x hx => .inr (D2.out x hx).1)
        have hlen5 : (o1 ++ [p.1]).length = o1.length + 1 := by simp
        obtain ⟨hGb5, vs5, vL5, hM5, hvs5, v55, oL5, -, -, e5⟩ := N5.sm
        have N5 := hid N5
        have M5 := hid hM5
        have GV5 := hid hvs5
        have V5 := hid v55
        have O5 := hid o5
        have D5 := hid D5
        have KC := hid KC
        clear KA W0
        obtain ⟨a5, c5, hy⟩ := o5.form
        rw [hlen5] at hy
        subst hy
        refine hK _ _ ?_
        clear hK K f5 k5 o5 hown hsrc k3 hM5 hvs5 v55 k1 e2
        go_wp2_with fail
        refine (deletep_any 0 0 1 rfl rfl (by simp) oL5).mono ?_
        rintro _ w6 ⟨y6, rfl, o6, f6, k6⟩
        replace o6 : OwnP w6 y6 l2 := o6
        have st6 := N5.out.storedP M5.out hGb5 GV5.out V5.out k6 o6 (fun k hk => .inl (by rw [← f6]; exact hk))
        obtain ⟨h6, hf6⟩ := M5.out.sp V5.out k6
        obtain ⟨G6, N6, J6, K6⟩ := st6
        have up : ∀ x, G2 x → G x ∨ w.heap.size ≤ x := fun x hx => (JK2.out.1 x hx).elim (J.out x) (fun h => .inr (Nat.le_trans K0.out.size h))
        have KD := hid (KC.out.then K6 up)
        have J7 : ∀ x, G6 x → G x ∨ w.heap.size ≤ x := fun x hx => (J6 x hx).elim (up x) (fun h => .inr (Nat.le_trans KC.out.size h))
        have O7 := hid (O5.out.keep K6 (fun x hx => (D5.out x hx).2))
        have D7 : ∀ x, (Value.slice a5 (o1.length + 1) c5).ownBlock = some x → w.heap.size ≤ x ∧ ¬ G6 x := fun x hx => ⟨(D5.out x hx).1, fun h => (J6 x h).elim (D5.out x hx).2 (fun h => by have := own_lt O5.out hx; omega)⟩
        have N7 : MNew 69 w0 (w6.setCell ⟨b, 2, none⟩ y6) G6 b (scs { S with free := f1 - p.2, l := l2 }) := N6
        have N7 := hid N7
        have J7 := hid J7
        have D7 := hid D7
        have S7 : Hid (srv S.free S.l = ((o1 ++ [p.1]) ++ (srv (f1 - p.2) l2).1, (srv (f1 - p.2) l2).2)) := hid (by rw [SV.out, srv_cons_yes hp]; simp)
        obtain ⟨a6, n6, hy6⟩ := o6.form
        generalize l2.length = m6 at hy6
        subst hy6
        clear f6 k6 o6 N6 J6 K6 up e5 oL5
        have HL5 := hid hlen5
        clear hlen5
        go_wp2_with fail
        go_roundw
        case rel => exact ⟨o1 ++ [p.1], f1 - p.2, l2, a5, c5, G6, by rw [HL5.out], S7.out, by simp at hlen ⊢; omega, ⟨GD.out.s1, GD.out.s16, by show 0 ≤ f1 - p.2; omega, by show f1 - p.2 ≤ S.size; omega, fun q hq => GD.out.l q (List.mem_cons_of_mem _ hq)⟩, by rw [HL5.out]; exact O7.out, N7.out, J7.out, KD.out, by rw [HL5.out]; exact D7.out⟩
        case measure => simp [slen]; simp at hlen; omega
      · have hp' : decide (p.2 ≤ f1) = false := decide_eq_false hp
        obtain ⟨rfl, rfl, rfl⟩ := FIN.out (by rw [srv_cons_no hp]) (by rw [srv_cons_no hp])
        clear hp
        go_wp2_with fail
        refine wp_region_text [0,0,0,1,0,0,0,0,0,0,1,0,0,1,0,0,0,1,0,0] (fun _ => True) (by kernel_rfl) (by kernel_rfl) trivial ?_
        repeat (first
          | (refine' wpT_calm (v := _) (by rfl) (fun W hW => ?_) ?_; rotate_left
             · ((try dsimp only at hW); go_simp; first | done | rfl)
             simp only [Act.put, List.setIfInBounds_toArray, List.set_cons_zero, List.set_cons_succ])
          | (refine' wpT_reads (v := _) (by rfl) ?_ ?_; rotate_left
             · (go_simp; first | done | rfl)
             simp only [Act.put, List.setIfInBounds_toArray, List.set_cons_zero, List.set_cons_succ])
          | (refine wpT_skip (by rfl) rfl ?_; simp only [Act.put, List.setIfInBounds_toArray, List.set_cons_zero, List.set_cons_succ])
          | (refine wpT_does (by rfl) (fun K hK => ?_); go_simp; refine hK _ _ ?_ ?_
             · (trivial)
             clear hK K; try simp only [Act.put, List.setIfInBounds_toArray, List.set_cons_zero, List.set_cons_succ])
          | (refine wpT_last (by rfl) (fun K hK => ?_); go_simp; refine hK _ _ ?_; clear hK K)
          | (refine wpT_nil ?_))
        go_wp2_with fail
        refine (clip_any a o.length c (own_cap O.out)).mono ?_
        rintro _ w2 ⟨rfl, rfl⟩
        go_wp2
        go_ret
        refine ⟨_, _, rfl, ?_⟩
        have K1 : Keep (fun _ => False) wr wr.drew := (Keep.refl _ _).drew
        have O1 := O.out.keep K1 (fun _ _ h => h)
        exact ⟨O1.reads.recap, K0.out.then K1 (fun _ h => h.elim), G1, N.out.quiet K1, J.out, fun k hk => by
          have hk' : (Value.slice a o.length c).ownBlock = some k := by cases a <;> exact hk
          exact ⟨.inr (D.out k hk').1, own_lt O1 hk', (D.out k hk').2⟩⟩
end
end Go.Proofs.Ytegpoocmhamlpaa
