/- The reference's Once: Begin. -/
import Derived.Test.YtacogkmnmeekfaaRfC
namespace Go.Proofs.Ytacogkmnmeekfaa
open Go Go.RowKit

section
variable {w0 w : World} {G : Nat → Prop} {b : Nat} {o : Bool} {l : List Int}

/-- What the reference's Begin answers, and its row then. -/
def rbeg (o : Bool) (l : List Int) (t : Int) : Bool × Int × List Int :=
  if t < 1 then (false, 1, l) else if o then (false, 0, l) else if t ∈ l then (false, 11, l) else if l.length = 0 then (true, 0, l ++ [t]) else (false, 14, l ++ [t])

set_option maxRecDepth 10000 in
set_option maxHeartbeats 2000000 in
theorem qbegin_any (t : Int) (h : LNew 51 w0 w G b [.bool o] l) (hn : l.length ≤ 1000) {r : Bool} {e : Int} {l' : List Int} (hq : rbeg o l t = (r, e, l')) :
    Calls Try.prog 29 #[.pointer (some ⟨b, 0, none⟩), .int .i64 t] w fun en w' => en = .returned (.tuple #[.bool r, .int .i64 e]) ∧ StepL 51 w0 G w w' b [.bool o] l' := by
  have HH := hid h
  obtain ⟨⟨hGb, hG, v, h, hGv⟩, _⟩ := h
  have h1 : w.cell? ⟨b, 1, none⟩ = some (.bool o) := h.get 0 rfl
  have h2 : w.cell? ⟨b, 0, none⟩ = some v := h.list
  have H := hid h
  obtain ⟨a0, n0, hv⟩ := h.own.form
  have HV := hid hv
  rw [hv] at h2
  clear h hv
  have same : Hid (StepL 51 w0 G w w b [.bool o] l) := HH.out.on HH.out.1.after
  by_cases ht : t < 1
  · obtain ⟨rfl, rfl, rfl⟩ : false = r ∧ 1 = e ∧ l = l' := by simpa [rbeg, ht] using hq
    clear hq
    go_enter Try.func29, Try.ntmps29
    go_wp2
    go_ret2
    exact ⟨rfl, same.out⟩
  cases o
  case true =>
    obtain ⟨rfl, rfl, rfl⟩ : false = r ∧ 0 = e ∧ l = l' := by simpa [rbeg, ht] using hq
    clear hq
    go_enter Try.func29, Try.ntmps29
    go_wp2
    go_ret2
    exact ⟨rfl, same.out⟩
  by_cases hm : t ∈ l
  · obtain ⟨rfl, rfl, rfl⟩ : false = r ∧ 11 = e ∧ l = l' := by simpa [rbeg, ht, hm] using hq
    have hi := hid (idx_in hm)
    have hi0 : (0 : Int) ≤ ((l.idxOf t : Nat) : Int) := by omega
    clear hm hq
    go_enter Try.func29, Try.ntmps29
    go_wp2_with fail
    refine (qat_any t HH.out hn).mono ?_
    rintro _ _ ⟨rfl, rfl⟩
    rw [hi.out]
    go_wp2
    go_ret2
    exact ⟨rfl, same.out⟩
  have hi := hid (idx_out hm)
  obtain ⟨hre, rfl⟩ : (if l.length = 0 then (true, (0 : Int)) else (false, 14)) = (r, e) ∧ l ++ [t] = l' := by
    unfold rbeg at hq
    rw [if_neg ht, if_neg (by decide), if_neg hm] at hq
    split at hq <;> · cases hq; rename_i h0; exact ⟨by simp [h0], rfl⟩
  have RE := hid hre
  clear hm hq hre
  go_enter Try.func29, Try.ntmps29
  go_wp2_with fail
  refine (qat_any t HH.out hn).mono ?_
  rintro _ _ ⟨rfl, rfl⟩
  rw [hi.out]
  have hb := H.out.lt
  have K0 : Keep (fun _ => False) w (w.alloc (.cells #[] 3)) := (Keep.refl _ _).alloc _
  have hrow : OwnI (w.alloc (.cells #[] 3)) (.slice (some ⟨w.heap.size, 0, none⟩) 0 0) [] := made_rowI w
  have hsrc := (H.out.own.keep K0 (fun _ _ h => h)).src
  rw [HV.out] at hsrc
  go_wp2_with (at_builtin; refine wpList_plain rfl (fun K hK => wp_append_ints _ (.tmp 17) (.tmp 21) rfl _ [] rfl hrow _ l.length l rfl hsrc (by simp; omega) ?_))
  intro v1 W1 o1 f1 k1
  try rw [List.nil_append] at o1
  have K1 : Keep (fun _ => False) w W1 := K0.then k1 (fun k hk => .inr (by have := Option.some.inj hk; dsimp only at this; omega))
  have F1 : ∀ k, v1.ownBlock = some k → w.heap.size ≤ k := fun k hk => (f1 k hk).elim (fun h => by have := Option.some.inj h; dsimp only at this; omega) (fun h => by have := K0.size; omega)
  obtain ⟨a1, n1, rfl⟩ := o1.form
  refine hK _ _ ?_
  clear hK K f1 k1 hsrc hrow K0
  have K2 : Keep (fun _ => False) w (W1.alloc (.cells #[.int .i64 t] 3)) := K1.alloc _
  have hown := o1.keep ((Keep.refl (fun _ => False) W1).alloc (.cells #[.int .i64 t] 3)) (fun _ _ h => h)
  have hsrc := one_srcI W1 t
  go_wp2_with (at_builtin; refine wpList_plain rfl (fun K hK => wp_append_ints _ (.tmp 22) (.tmp 24) rfl _ l rfl hown _ 1 _ rfl hsrc (by omega) ?_))
  intro v2 W2 o2 f2 k2
  have K3 : Keep (fun _ => False) w W2 := K2.then k2 (fun k hk => .inr (F1 k hk))
  have F2 : Hid (∀ k, v2.ownBlock = some k → G k ∨ w.heap.size ≤ k) := fun k hk => (f2 k hk).elim (fun h => .inr (F1 k h)) (fun h => .inr (by have := K1.size; omega))
  obtain ⟨a2, n2, hv2⟩ := o2.form
  rw [List.length_append] at hv2
  replace hv2 : v2 = .slice a2 (l.length + 1) n2 := hv2
  subst hv2
  refine hK _ _ ?_
  have f2' : ∀ b', (Value.slice a2 (l.length + 1) n2).ownBlock = some b' → w.heap.size ≤ b' := fun k hk => (f2 k hk).elim (fun h => F1 k h) (fun h => by have := K1.size; omega)
  clear hK K f2 k2 hsrc hown K2
  have hr := (K3.block b H.out.lt (fun h => h)).trans H.out.row
  have hne : (Value.slice a2 (l.length + 1) n2).ownBlock ≠ some b := fun e => by have := f2' b e; omega
  have H1 := hid (OblAt.setList hr o2 hne)
  have h1 : W2.cell? ⟨b, 0, none⟩ = some v := by rw [cell_of_row W2 b 0 _ _ _ hr]; rfl
  have hf : W2.frozen? ⟨b, 0, none⟩ = false := by simp [World.frozen?, hr]
  have HK := hid (K3.mono (G := G) fun k _ e => e.elim)
  clear f2' hne K3 hr o2 K1 F1 o1
  have h1' : ∀ u, (W2.setCell ⟨b, 0, none⟩ u).cell? ⟨b, 0, none⟩ = some u := fun u => World.cell?_setCell_same _ _ _ h1
  have g2 : (W2.setCell ⟨b, 0, none⟩ (.slice a2 (l.length + 1) n2)).cell? ⟨b, 0, none⟩ = some (.slice a2 (l.length + 1) n2) := h1' _
  rcases (by omega : l.length = 0 ∨ 1 ≤ l.length) with h0 | h0
  · have hl0 : ((l.length : Int) + 1 == 1) = true := by simp; omega
    have hre := RE.out
    rw [if_pos h0] at hre
    cases hre
    clear h0
    go_wp2
    go_ret2
    exact ⟨rfl, HH.out.on (AfterL.mk HK.out hGb _ H1.out F2.out)⟩
  · have hl0 : ((l.length : Int) + 1 == 1) = false := by simp; omega
    have hre := RE.out
    rw [if_neg (by omega)] at hre
    cases hre
    go_wp2
    go_ret2
    exact ⟨rfl, HH.out.on (AfterL.mk HK.out hGb _ H1.out F2.out)⟩
end
end Go.Proofs.Ytacogkmnmeekfaa
