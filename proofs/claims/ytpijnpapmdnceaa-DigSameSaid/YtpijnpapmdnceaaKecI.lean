/- The walk of keccak.Permute. -/
import Derived.Test.YtpijnpapmdnceaaKecH
namespace Go.Proofs.Ytpijnpapmdnceaa
open Go Go.RowKit

set_option maxRecDepth 10000 in
set_option maxHeartbeats 2000000 in
theorem perm_any (s : List L64) (hs : s.length = 25) (w : World) :
    Calls Try.prog 16 #[.agg (stv s).toArray] w fun e w' => e = .returned (.agg (stv (perm s)).toArray) ∧ Keep (fun _ => False) w w' := by
  obtain ⟨q1, q2, kk⟩ := boxes2 w s z25 28 28
  have q1 := hid q1
  have q2 := hid q2
  have kk := hid kk
  go_enter Try.func16, Try.ntmps16
  go_wp2_with fail
  go_loopw [4] (fun i wr => ∃ k : Nat, k ≤ 24 ∧ i = .int .i64 k ∧ RowL wr w.heap.size 28 (rnds s k) ∧ RowL wr (w.heap.size + 1) 28 z25 ∧ Keep (fun _ => False) w wr) (fun i _ => 24 - (intOf i).toNat)
  case atStart => exact ⟨0, Nat.zero_le _, rfl, q1.out, q2.out, kk.out⟩
  case round =>
    obtain ⟨k, hk, rfl, h1, h2, hK⟩ := hrel
    have H1 := hid h1
    have H2 := hid h2
    have HK := hid hK
    have hl := rnds_len hs k
    clear q1 q2 kk h1 h2 hK
    by_cases hlt : k < 24
    · have TS := rnds_succ s k
      obtain ⟨u, hu⟩ : ∃ u, rnds s k = u := ⟨_, rfl⟩
      rw [hu] at H1 hl TS
      have HR : Is (rnds s (k + 1)) (rnd u k) := ⟨TS⟩
      clear hu TS
      go_wp2_with ((with_reducible refine wpList_ld (.tmp 1) rfl rfl _ rfl u hl H1.out ?_))
      refine (round_in u hl k hlt _).mono ?_
      rintro _ W1 ⟨rfl, K1⟩
      have q1 := hid (H1.out.keep K1 (fun h => h))
      have q2 := hid (H2.out.keep K1 (fun h => h))
      have kk := hid (HK.out.trans K1)
      have hrl := rnd_len u k
      obtain ⟨v, hv⟩ : ∃ v, rnd u k = v := ⟨_, rfl⟩
      rw [hv] at hrl HR ⊢
      clear K1 H1 H2 HK hv
      go_wp2_with (with_reducible refine wpList_st (.tmp 1) (.tmp 9) rfl rfl _ rfl v hrl rfl u hl q1.out ?_)
      go_roundw
      case rel => exact ⟨k + 1, by omega, by go_num, by rw [HR.eq]; exact q1.out.row, q2.out.otherRow _ _ (by omega), kk.out.setRow (by omega) _⟩
      case measure => simp [intOf]; omega
    · have hk24 : k = 24 := by omega
      have HE : Is (perm s) (rnds s k) := ⟨by rw [hk24]; rfl⟩
      obtain ⟨u, hu⟩ : ∃ u, rnds s k = u := ⟨_, rfl⟩
      rw [hu] at H1 hl HE
      clear hu hk24
      go_wp2_with (first | (with_reducible refine wpList_ld (.tmp 1) rfl rfl _ rfl u hl H1.out ?_) | (with_reducible refine wpList_st (.tmp 2) (.tmp 11) rfl rfl _ rfl u hl rfl z25 rfl H2.out ?_))
      refine bodyPost_ret (res_cell (p := 2) (g := w.heap.size + 1) (s := u) rfl _ _ hl rfl H2.out.row) rfl ⟨?_, HK.out.setRow (by omega) _⟩
      rw [HE.eq]
end Go.Proofs.Ytpijnpapmdnceaa
