/- Law 20: awake, and the digests of any bytes. -/
import Derived.Test.YtpijnpapmdnceaaDigG
import Derived.Test.YtpijnpapmdnceaaDigH0
import Derived.Test.YtpijnpapmdnceaaRows
namespace Go.Proofs.Ytpijnpapmdnceaa
open Go Go.RowKit

def bya (l : List B8) : ByteArray := ⟨(l.map UInt8.ofBitVec).toArray⟩
theorem bstr_eq (l : List B8) : bstr l = .string (bya l) := rfl
theorem bya_size (l : List B8) : (bya l).size = l.length := by
  show ((l.map UInt8.ofBitVec).toArray).size = _
  simp
theorem bya_get (l : List B8) (i : Nat) (h : i < (bya l).size) : ((bya l)[i]'h).toNat = (gb l i).toNat := by
  have h2 : i < l.length := by rwa [bya_size] at h
  rw [gb_get l i h2]
  show (((l.map UInt8.ofBitVec).toArray)[i]'(by simpa using h2)).toNat = _
  simp
theorem bya_list (l : List B8) : (bya l).toList = l.map UInt8.ofBitVec := ByteArray.toList_mk _
theorem bya_beq (a b : List B8) : ((bya a).toList == (bya b).toList) = decide (a = b) := by
  rw [bya_list, bya_list, Bool.eq_iff_iff]
  simp only [beq_iff_eq, decide_eq_true_eq]
  exact ⟨fun h => (List.map_inj_right (fun x y e => by simpa using e)).1 h, fun h => by rw [h]⟩
theorem dgt_ne : dgt [] ≠ dgt [97#8, 98#8, 99#8] := fun h => by
  have h1 := dgt_facts.1
  rw [h, dgt_facts.2.2.1] at h1
  exact absurd h1 (by decide)

theorem readY_nil (w : World) (a : Option Addr) (c : Nat) : ReadY w (.slice a 0 c) [] := .inl ⟨a, c, rfl, rfl⟩

theorem run_mark (P : Program) (w : World) (C : Array Value) (e : TypeId) : (markStringish ⟨w.heap.size, 0, none⟩).run P (w.alloc (.cells C e)) = .ok () (w.alloc (.cells C e (C.size, C.size + 1))) := by
  have hsh : (w.alloc (.cells C e)).shape? w.heap.size = some (e, C.size) := by
    have : (w.alloc (.cells C e)).heap[w.heap.size]? = some (.cells C e) := by
      show (w.heap.push (.cells C e))[w.heap.size]? = _
      simp
    unfold World.shape?
    rw [this]
  have hfr : ∀ (n : Nat), (w.alloc (.cells C e)).freeze ⟨w.heap.size, n, none⟩ 1 = w.alloc (.cells C e (n, n + 1)) := fun n => by
    have hm : ∀ (a : Array Obj) (x : Obj) (f : Obj → Obj), (a.push x).modify a.size f = a.push (f x) := by
      intro a x f
      apply Array.ext
      · simp
      · intro i h1 h2
        simp only [Array.getElem_modify, Array.getElem_push]
        by_cases h : a.size = i
        · subst h
          simp
        · have hi : i < a.size := by simp at h1; omega
          simp [h, hi]
    unfold World.freeze
    rw [if_neg (by decide)]
    show ({ w.alloc (.cells C e) with heap := (w.heap.push (.cells C e)).modify w.heap.size _ } : World) = _
    rw [hm]
    rfl
  simp [markStringish, hsh]
  exact hfr _
theorem conv_bytes_bytes (w : World) (C : Array Value) (n c : Nat) : (convert 22 22 (.slice (some ⟨w.heap.size, 0, none⟩) n c)).run Try.prog (w.alloc (.cells C 5)) = .ok (.slice (some ⟨w.heap.size, 0, none⟩) n c) (w.alloc (.cells C 5 (C.size, C.size + 1))) := by
  simp [convert, run_underlying Try.underlying22, run_underlying Try.underlying5, run_mark]

set_option maxRecDepth 10000 in
set_option maxHeartbeats 1000000 in
theorem dawake_any (w : World) :
    Calls Try.prog 12 #[] w fun e w' => e = .returned (.bool true) ∧ Keep (fun _ => False) w w' := by
  obtain ⟨SA, SB, EA, EB, sA, sB, NE, iA0, iA1, iB0, iB1⟩ : ∃ SA SB : ByteArray, bstr (dgt []) = .string SA ∧ bstr (dgt [97#8, 98#8, 99#8]) = .string SB ∧ SA.size = 32 ∧ SB.size = 32 ∧ (SA.toList == SB.toList) = false ∧
      (∀ h, (SA[0]'h).toNat = 167) ∧ (∀ h, (SA[1]'h).toNat = 255) ∧ (∀ h, (SB[0]'h).toNat = 58) ∧ (∀ h, (SB[1]'h).toNat = 152) :=
    ⟨bya (dgt []), bya (dgt [97#8, 98#8, 99#8]), rfl, rfl, by rw [bya_size, dgt_len], by rw [bya_size, dgt_len], by rw [bya_beq]; exact decide_eq_false dgt_ne,
      fun h => by rw [bya_get, dgt_facts.1]; rfl, fun h => by rw [bya_get, dgt_facts.2.1]; rfl, fun h => by rw [bya_get, dgt_facts.2.2.1]; rfl, fun h => by rw [bya_get, dgt_facts.2.2.2]; rfl⟩
  have EA := hid EA
  have EB := hid EB
  go_enter Try.func12, Try.ntmps12
  go_wp2_with fail
  refine (of_any (readY_nil w _ _) (by decide)).mono ?_
  rintro _ w1 ⟨rfl, k1⟩
  rw [EA.out]
  have rd : ReadY (w1.alloc (.cells #[.int .u8 97, .int .u8 98, .int .u8 99] 5 (3, 4))) (.slice (some ⟨w1.heap.size, 0, none⟩) 3 3) [97#8, 98#8, 99#8] := by
    refine .inr ⟨w1.heap.size, 0, 3, rfl, by rw [World.size_alloc]; exact Nat.lt_succ_self _, by simp [maxLen], fun i hi => ?_⟩
    rw [Nat.zero_add, World.cell?_alloc_mark]
    match i, hi with
    | 0, _ => rfl
    | 1, _ => rfl
    | 2, _ => rfl
    | n + 3, h => exact absurd h (by simp)
  have K1 := hid (k1.alloc (.cells #[.int .u8 97, .int .u8 98, .int .u8 99] 5 (3, 4)))
  have cv := conv_bytes_bytes w1 #[.int .u8 97, .int .u8 98, .int .u8 99] 3 3
  have rd := hid rd
  clear k1
  go_wp2_with fail
  refine (of_any rd.out (by decide)).mono ?_
  rintro _ w2 ⟨rfl, k2⟩
  rw [EB.out]
  have K2 := hid (K1.out.trans k2)
  clear k2 rd K1
  go_wp2_with fail
  refine (rof_any (readY_nil _ _ _) (by decide)).mono ?_
  rintro _ w3 ⟨rfl, k3⟩
  rw [EA.out]
  have K3 := hid (K2.out.trans k3)
  clear k3 K2
  go_wp2_with fail
  go_ret
  exact ⟨rfl, K3.out⟩
end Go.Proofs.Ytpijnpapmdnceaa
