/- The walks of the reference's Sema: serve. -/
import Derived.Test.YtegpoocmhamlpaaSmI
namespace Go.Proofs.Ytegpoocmhamlpaa
open Go Go.RowKit

section
variable {w0 w : World} {G : Nat → Prop} {b : Nat} {S : SS}

set_option maxRecDepth 10000 in
set_option maxHeartbeats 4000000 in
theorem sserve_any (h : MNew 46 w0 w G b (rscs S)) (hg : SGood S) (hn : S.l.length ≤ 1000) {o : List Int} {f' : Int} {l' : List (Int × Int)} (hb : srv S.free S.l = (o, f', l')) :
    Calls Try.prog 59 #[.pointer (some ⟨b, 0, none⟩)] w fun en w' => ∃ a m, en = .returned (.slice a o.length m) ∧ OutM 46 w0 G w w' b (rscs { S with free := f', l := l' }) a m o := by
  have HB := hid hb
  have HG := hid hg
  have kA : Keep (fun _ => False) w (w.alloc (.cells #[] 3)) := (Keep.refl _ _).alloc _
  have HH := hid (h.quiet kA)
  have OA := hid (made_rowI w : OwnI (w.alloc (.cells #[] 3)) (.slice (some ⟨w.heap.size, 0, none⟩) 0 0) [])
  have KA := hid (kA.mono (G := G) fun _ _ h => h.elim)
  have xg : Hid (¬ G w.heap.size) := hid fun h' => by have := h.1.2.1 _ h'; omega
  have W0x : Hid (∀ x, w.heap.size ≤ x → w0.heap.size ≤ x) := hid fun x hx => Nat.le_trans h.2.2.size hx
  clear h hb hg kA
  go_enter Try.func59, Try.ntmps59
  go_wp2_with fail
  go_loopw [3] (fun r wr => ∃ (o1 : List Int) (f1 : Int) (l1 : List (Int × Int)) (a : Option Addr) (c : Nat) (G1 : Nat → Prop), r = .slice a o1.length c ∧ srv S.free S.l = (o1 ++ (srv f1 l1).1, (srv f1 l1).2) ∧ o1.length + l1.length = S.l.length ∧ SGood { S with free := f1, l := l1 } ∧
    OwnI wr (.slice a o1.length c) o1 ∧ MNew 46 w0 wr G1 b (rsc S.size f1 (l1.map (·.1)) (l1.map (·.2))) ∧ (∀ k, G1 k → G k ∨ w.heap.size ≤ k) ∧ Keep G w wr ∧ ∀ x, (Value.slice a o1.length c).ownBlock = some x → w.heap.size ≤ x ∧ ¬ G1 x) (fun r _ => S.l.length - slen r)
  case atStart => exact ⟨[], S.free, S.l, _, _, G, rfl, rfl, by simp, HG.out, OA.out, HH.out, fun _ h => .inl h, KA.out, fun x hx => by have := Option.some.inj hx; dsimp only at this; subst this; exact ⟨Nat.le_refl _, xg.out⟩⟩
  case round =>
    obtain ⟨o1, f1, l1, a, c, G1, rfl, hsrv, hlen, hgd, hO, hN, hJ, hK, hD⟩ := hrel
    clear OA KA xg
    have O := hid hO
    have N := hid hN
    have J := hid hJ
    have K0 := hid hK
    have D := hid hD
    have GD := hid hgd
    have SV := hid hsrv
    clear hO hN hJ hK hD hgd hsrv
    obtain ⟨hGb, vs, vW, vM, hM, hvs, v2, v3, oW, oM, c0, c1, c2, c3⟩ := N.out.rs
    -- the end
    have fin : (srv f1 l1).1 = [] → (srv f1 l1).2 = (f1, l1) → o = o1 ∧ f' = f1 ∧ l' = l1 := fun e1 e2 => by
      have := SV.out
      rw [HB.out, e1, e2, List.append_nil] at this
      cases this
      exact ⟨rfl, rfl, rfl⟩
    have FIN := hid fin
    clear fin
    cases l1 with
    | nil =>
      obtain ⟨aL, cL, hv⟩ := oW.form
      simp only [List.map_nil, List.length_nil] at hv
      rw [hv] at c2
      clear hv oW oM v2 v3 hM hvs
      go_wp2_with fail
      refine wp_region_text [0,0,0,1,0,0,0,0,0,0,1,0,0,0,1,0,1,0,0,0,0,1,0,0] (fun _ => True) (by kernel_rfl) (by kernel_rfl) trivial ?_
      repeat (first
        | (refine' wpT_calm (v := _) (by rfl) (fun W hW => ?_) ?_; rotate_left
           · ((try dsimp only at hW); go_simp; first | done | rfl)
           simp only [Act.put, List.setIfInBounds_toArray, List.set_cons_zero, List.set_cons_succ])
        | (refine' wpT_reads (v := _) (by rfl) ?_ ?_; rotate_left
           · (go_simp; first | done | rfl)
           simp only [Act.put, List.setIfInBounds_toArray, List.set_cons_zero, List.set_cons_succ])
        | (refine wpT_skip (by rfl) rfl ?_; simp only [Act.put, List.setIfInBounds_toArray, List.set_cons_zero, List.set_cons_succ])
        | (refine wpT_does (by rfl) (fun K hK => ?_); go_simp; refine hK _ _ ?_ ?_
           · (trivial)
           clear hK K; try simp only [Act.put, List.setIfInBounds_toArray, List.set_cons_zero, List.set_cons_succ])
        | (refine wpT_last (by rfl) (fun K hK => ?_); go_simp; refine hK _ _ ?_; clear hK K)
        | (refine wpT_nil ?_))
      go_wp2_with fail
      obtain ⟨rfl, rfl, rfl⟩ := FIN.out rfl rfl
      go_ret
      refine ⟨_, _, rfl, ?_⟩
      have K1 : Keep (fun _ => False) wr wr.drew := (Keep.refl _ _).drew
      have O1 := O.out.keep K1 (fun _ _ h => h)
      exact ⟨O1.reads, K0.out.then K1 (fun _ h => h.elim), G1, N.out.quiet K1, J.out, fun k hk =>
        ⟨.inr (D.out k hk).1, own_lt O1 hk, (D.out k hk).2⟩⟩
    | cons p l2 =>
      obtain ⟨gW, cW, hvW, hgW, -, -, hcW⟩ := ownI_row oW (by simp)
      obtain ⟨gM, cM, hvM, hgM, -, -, hcM⟩ := ownI_row oM (by simp)
      obtain ⟨m, hm⟩ : ∃ m : Nat, ((p :: l2).map (·.1)).length = m := ⟨_, rfl⟩
      have hm2 : ((p :: l2).map (·.2)).length = m := by rw [← hm]; simp
      rw [hm] at hvW
      rw [hm2] at hvM
      have hmp : 0 < m := by rw [← hm]; simp
      have hmp' : (0 : Int) < (m : Int) := by omega
      have k2 : wr.cell? ⟨gM, 0, none⟩ = some (.int .i64 p.2) := hcM 0 (by simp)
      rw [hvW] at c2
      rw [hvM] at c3
      have HM := hid hm
      have gd1 := GD.out.s16
      have gd2 := GD.out.f0
      have gd3 := GD.out.f1
      dsimp only at gd1 gd2 gd3
      have gd4 : 1 ≤ p.2 ∧ p.2 ≤ S.size := (GD.out.l p (by simp)).2
      obtain ⟨gd4, gd5⟩ := gd4
      obtain ⟨T, hT⟩ : ∃ T, S.size - f1 = T := ⟨_, rfl⟩
      have HT := hid hT
      rw [hT] at c1
      have t0 : 0 ≤ T := by omega
      have t1 : T ≤ 16 := by omega
      have hsum : IntKind.i64.wrap (T + p.2) = T + p.2 := IntWalk.i64_in _ ⟨by omega, by omega⟩
      clear hvW hvM oW oM v2 v3 hM hvs hcM hcW hm hm2
      by_cases hp : p.2 ≤ f1
      · have hp2 : T + p.2 ≤ S.size := by omega
        clear hT
        go_wp2_with fail
        refine wp_region_text [0,0,0,1,0,0,0,0,0,0,1,0,0,0,1,0,1,0,0,0,0,1,0,0] (fun _ => True) (by kernel_rfl) (by kernel_rfl) trivial ?_
        repeat (first
          | (refine' wpT_calm (v := _) (by rfl) (fun W hW => ?_) ?_; rotate_left
             · ((try dsimp only at hW); go_simp; first | done | rfl)
             simp only [Act.put, List.setIfInBounds_toArray, List.set_cons_zero, List.set_cons_succ])
          | (refine' wpT_reads (v := _) (by rfl) ?_ ?_; rotate_left
             · (go_simp; first | done | rfl)
             simp only [Act.put, List.setIfInBounds_toArray, List.set_cons_zero, List.set_cons_succ])
          | (refine wpT_skip (by rfl) rfl ?_; simp only [Act.put, List.setIfInBounds_toArray, List.set_cons_zero, List.set_cons_succ])
          | (refine wpT_does (by rfl) (fun K hK => ?_); go_simp; refine hK _ _ ?_ ?_
             · (trivial)
             clear hK K; try simp only [Act.put, List.setIfInBounds_toArray, List.set_cons_zero, List.set_cons_succ])
          | (refine wpT_last (by rfl) (fun K hK => ?_); go_simp; refine hK _ _ ?_; clear hK K)
          | (refine wpT_nil ?_))
        have z1 := N.out.1.2.2
        have hfr : wr.frozen? ⟨b, 1, none⟩ = false := by obtain ⟨_, hM, _⟩ := z1; exact hM.fro 1
        clear z1
        go_wp2_with fail
        refine wp_region_text [0,0,0,1,0,0,0,1,0,1,0,0,0,3] (fun _ => True) (by kernel_rfl) (by kernel_rfl) trivial ?_
        repeat (first
          | (refine' wpT_calm (v := _) (by rfl) (fun W hW => ?_) ?_; rotate_left
             · ((try dsimp only at hW); go_simp; first | done | rfl)
             simp only [Act.put, List.setIfInBounds_toArray, List.set_cons_zero, List.set_cons_succ])
          | (refine' wpT_reads (v := _) (by rfl) ?_ ?_; rotate_left
             · (go_simp; first | done | rfl)
             simp only [Act.put, List.setIfInBounds_toArray, List.set_cons_zero, List.set_cons_succ])
          | (refine wpT_skip (by rfl) rfl ?_; simp only [Act.put, List.setIfInBounds_toArray, List.set_cons_zero, List.set_cons_succ])
          | (refine wpT_does (by rfl) (fun K hK => ?_); go_simp; refine hK _ _ ?_ ?_
             · (trivial)
             clear hK K; try simp only [Act.put, List.setIfInBounds_toArray, List.set_cons_zero, List.set_cons_succ])
          | (refine wpT_last (by rfl) (fun K hK => ?_); go_simp; refine hK _ _ ?_; clear hK K)
          | (refine wpT_nil ?_))
        have st1 : StepM 46 w0 G1 wr (wr.setCell ⟨b, 1, none⟩ (.int .i64 (T + p.2))) b (rsc S.size (f1 - p.2) ((p :: l2).map (·.1)) ((p :: l2).map (·.2))) := by
          have := N.out.scal (i := 1) (by simp [rsc]) (.int .i64 (T + p.2)) rfl
          have e : T + p.2 = S.size - (f1 - p.2) := by have := HT.out; omega
          rw [e] at this ⊢
          exact this
        obtain ⟨G2, N2, J2, K2⟩ := st1
        have kd : Keep (fun _ => False) (wr.setCell ⟨b, 1, none⟩ (.int .i64 (T + p.2))) (wr.setCell ⟨b, 1, none⟩ (.int .i64 (T + p.2))).drew.drew := (Keep.refl _ _).drew.drew
        have K2 : Keep G1 wr (wr.setCell ⟨b, 1, none⟩ (.int .i64 (T + p.2))).drew.drew := K2.then kd (fun _ h => h.elim)
        have N2 := N2.quiet kd
        have O2 := O.out.keep K2 (fun x hx => (D.out x hx).2)
        have D2 : ∀ x, (Value.slice a o1.length c).ownBlock = some x → w.heap.size ≤ x ∧ ¬ G2 x := fun x hx => ⟨(D.out x hx).1, fun h => (J2 x h).elim (D.out x hx).2 (fun h => by have := own_lt O.out hx; omega)⟩
        clear kd k2 c0 c1 c2 c3 hfr hsum
        generalize (wr.setCell ⟨b, 1, none⟩ (.int .i64 (T + p.2))).drew.drew = W1 at K2 N2 O2 ⊢
        obtain ⟨-, vs2, vW2, vM2, -, -, -, -, oW2, -, -, -, ee, -⟩ := N2.rs
        obtain ⟨g2, cL2, hv2, hgs2, -, hmx2, hc2⟩ := ownI_row oW2 (by simp)
        have k1 : W1.cell? ⟨g2, 0, none⟩ = some (.int .i64 p.1) := hc2 0 (by simp)
        have e2 : W1.cell? ⟨b, 2, none⟩ = some (.slice (some ⟨g2, 0, none⟩) m cL2) := by rw [ee, hv2, HM.out]
        have N2 := hid N2
        have O2 := hid O2
        have D2 := hid D2
        have JK2 := hid (And.intro J2 K2)
        clear ee hc2 hv2 oW2 hmx2 J2 K2
        have k3 : Keep (fun _ => False) W1 (W1.alloc (.cells #[.int .i64 p.1] 3)) := (Keep.refl _ _).alloc _
        have hown := O2.out.keep k3 (fun _ _ h => h)
        have hsrc := one_srcI W1 p.1
        go_wp2_with (at_builtin; refine wpList_plain rfl (fun K hK => wp_append_ints _ (.tmp 42) (.tmp 49) rfl _ o1 rfl hown _ 1 _ rfl hsrc (by omega) ?_))
        intro y w5 o5 f5 k5
        have KA : Keep G w W1 := K0.out.then JK2.out.2 J.out
        have hwk : w.heap.size ≤ W1.heap.size := KA.size
        have D5 : ∀ x, y.ownBlock = some x → w.heap.size ≤ x ∧ ¬ G2 x := fun x hx => (f5 x hx).elim (D2.out x) (fun h => ⟨by omega, fun hg => by have := N2.out.1.2.1 x hg; omega⟩)
        have N5 : MNew 46 w0 w5 G2 b (rsc S.size (f1 - p.2) ((p :: l2).map (·.1)) ((p :: l2).map (·.2))) := (N2.out.quiet k3).keep k5 (fun x hx => ⟨W0x.out x (D2.out x hx).1, (D2.out x hx).2⟩)
        have KC : Keep G w w5 := (KA.alloc _).then k5 (fun x hx => .inr (D2.out x hx).1)
        have hlen5 : (o1 ++ [p.1]).length = o1.length + 1 := by simp
        have N5 := hid N5
        have O5 := hid o5
        have D5 := hid D5
        have KC := hid KC
        clear KA hwk
        obtain ⟨a5, c5, hy⟩ := o5.form
        rw [hlen5] at hy
        subst hy
        refine hK _ _ ?_
        clear hK K f5 k5 o5 hown hsrc k3 k1 e2
        have hlm : ((p :: l2).map (·.1)).length ≤ 1000 := by simp at hlen ⊢; omega
        go_wp2_with fail
        refine (sout_any 0 (by simp) N5.out hlm (by simp)).mono ?_
        rintro _ w6 ⟨rfl, st6⟩
        obtain ⟨G6, N6, J6, K6⟩ := st6
        have up : ∀ x, G2 x → G x ∨ w.heap.size ≤ x := fun x hx => (JK2.out.1 x hx).elim (J.out x) (fun h => .inr (Nat.le_trans K0.out.size h))
        have KD := hid (KC.out.then K6 up)
        have J7 : ∀ x, G6 x → G x ∨ w.heap.size ≤ x := fun x hx => (J6 x hx).elim (up x) (fun h => .inr (Nat.le_trans KC.out.size h))
        have O7 := hid (O5.out.keep K6 (fun x hx => (D5.out x hx).2))
        have D7 : ∀ x, (Value.slice a5 (o1.length + 1) c5).ownBlock = some x → w.heap.size ≤ x ∧ ¬ G6 x := fun x hx => ⟨(D5.out x hx).1, fun h => (J6 x h).elim (D5.out x hx).2 (fun h => by have := own_lt O5.out hx; omega)⟩
        have N7 : MNew 46 w0 w6 G6 b (rsc S.size (f1 - p.2) (l2.map (·.1)) (l2.map (·.2))) := N6
        have N7 := hid N7
        have J7 := hid J7
        have D7 := hid D7
        have S7 : Hid (srv S.free S.l = ((o1 ++ [p.1]) ++ (srv (f1 - p.2) l2).1, (srv (f1 - p.2) l2).2)) := hid (by rw [SV.out, srv_cons_yes hp]; simp)
        clear N6 J6 K6 up
        have HL5 := hid hlen5
        clear hlen5
        go_wp2_with fail
        go_roundw
        case rel => exact ⟨o1 ++ [p.1], f1 - p.2, l2, a5, c5, G6, by rw [HL5.out], S7.out, by simp at hlen ⊢; omega, ⟨GD.out.s1, GD.out.s16, by show 0 ≤ f1 - p.2; omega, by show f1 - p.2 ≤ S.size; omega, fun q hq => GD.out.l q (List.mem_cons_of_mem _ hq)⟩, by rw [HL5.out]; exact O7.out, N7.out, J7.out, KD.out, by rw [HL5.out]; exact D7.out⟩
        case measure => simp [slen]; simp at hlen; omega
      · have hp' : decide (T + p.2 ≤ S.size) = false := decide_eq_false (by omega)
        obtain ⟨rfl, rfl, rfl⟩ := FIN.out (by rw [srv_cons_no hp]) (by rw [srv_cons_no hp])
        clear hp hT
        go_wp2_with fail
        refine wp_region_text [0,0,0,1,0,0,0,0,0,0,1,0,0,0,1,0,1,0,0,0,0,1,0,0] (fun _ => True) (by kernel_rfl) (by kernel_rfl) trivial ?_
        repeat (first
          | (refine' wpT_calm (v := _) (by rfl) (fun W hW => ?_) ?_; rotate_left
             · ((try dsimp only at hW); go_simp; first | done | rfl)
             simp only [Act.put, List.setIfInBounds_toArray, List.set_cons_zero, List.set_cons_succ])
          | (refine' wpT_reads (v := _) (by rfl) ?_ ?_; rotate_left
             · (go_simp; first | done | rfl)
             simp only [Act.put, List.setIfInBounds_toArray, List.set_cons_zero, List.set_cons_succ])
          | (refine wpT_skip (by rfl) rfl ?_; simp only [Act.put, List.setIfInBounds_toArray, List.set_cons_zero, List.set_cons_succ])
          | (refine wpT_does (by rfl) (fun K hK => ?_); go_simp; refine hK _ _ ?_ ?_
             · (trivial)
             clear hK K; try simp only [Act.put, List.setIfInBounds_toArray, List.set_cons_zero, List.set_cons_succ])
          | (refine wpT_last (by rfl) (fun K hK => ?_); go_simp; refine hK _ _ ?_; clear hK K)
          | (refine wpT_nil ?_))
        go_wp2
        go_ret
        refine ⟨_, _, rfl, ?_⟩
        have K1 : Keep (fun _ => False) wr wr.drew := (Keep.refl _ _).drew
        have O1 := O.out.keep K1 (fun _ _ h => h)
        exact ⟨O1.reads, K0.out.then K1 (fun _ h => h.elim), G1, N.out.quiet K1, J.out, fun k hk =>
          ⟨.inr (D.out k hk).1, own_lt O1 hk, (D.out k hk).2⟩⟩
end
end Go.Proofs.Ytegpoocmhamlpaa
