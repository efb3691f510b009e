/- What a walk is told of a state that came in. -/
import Derived.Test.YtknlhbbkjgkjpaaKecM
import Derived.ProofKit
import Derived.OpenShut
import Derived.ShutString
import Derived.ChangeOld
import Derived.Below
import Derived.Deep.Slices
import Derived.Deep.Fields
import Derived.ChangeSame
import Derived.Lib.SmallJoins
namespace Go.Proofs.Ytknlhbbkjgkjpaa
open Go Go.ChangeShapes Go.WideShapes Go.Deep Go.RowKit

def ofV : Value → L64
  | .int _ n => BitVec.ofInt 64 n
  | _ => 0#64

section
variable {H : Type} {enc : TypeId × Value → H} {P : Program} {w : World} {base : Nat} {spare : Nat → Bool} {held : Bool}

theorem okWide_arr {k : Nat} {e : TypeId} {t : TypeId} {r : Reach} {v : Value} (ht : P.underlying t = some (.array k e)) (h : Value.okWide P w r base t v) : ∃ cs, v = .agg cs ∧ cs.size = P.cellsOf t := by
  simp only [Value.okWide, ht] at h
  obtain ⟨cs, h1, h2, _⟩ := h
  exact ⟨cs, h1, h2⟩

theorem open_lanes {t e : TypeId} {b0 : Nat} {r : Reach} {v : Value} {d : DataW H} {ps : List MemPlace} (ht : P.underlying t = some (.array 25 e)) (he : P.underlying e = some (.int .u64)) (hC : P.cellsOf e = 1) (hCt : P.cellsOf t = 25)
    (hv : Value.okWide P w r b0 t v) (h : DataW.Trod enc P w base spare held t v d ps) : ∃ s : List L64, s.length = 25 ∧ v = .agg (stv s).toArray := by
  obtain ⟨cs, rfl, hsz⟩ := okWide_arr ht hv
  obtain ⟨fuel, hf⟩ := h
  obtain ⟨xs, m, _, _, hl, hxl, hel⟩ := DataW.trod_array ht hf
  have hcl : cs.toList.length = 25 := by rw [Array.length_toList, hsz, hCt]
  refine ⟨cs.toList.map ofV, by rw [List.length_map, hcl], ?_⟩
  congr 1
  have key : cs.toList = stv (cs.toList.map ofV) := by
    refine List.ext_getElem (by rw [stv_len, List.length_map]) fun i h1 h2 => ?_
    have hi : i < 25 := by omega
    have hE := hel i hi
    rw [hC, Nat.mul_one, List.getElem?_eq_getElem (by omega)] at hE
    have hE' : DataW.trod enc P w base spare held m e ((cs.toList.drop i).take 1) = some xs[i] := by simpa [Value.cells] using hE
    obtain ⟨z, e1, _, hw⟩ := DataW.trod_int he hE'
    rw [List.drop_eq_getElem_cons h1] at e1
    have e2 : cs.toList[i] = .int .u64 z := by simpa using e1
    have hb : 0 ≤ z ∧ z ≤ 18446744073709551615 := by
      simp only [Lit.wf, Bool.and_eq_true, decide_eq_true_eq] at hw
      exact ⟨Int.le_trans (by decide) hw.1, Int.le_trans hw.2 (by decide)⟩
    have e3 : (stv (cs.toList.map ofV))[i] = .int .u64 ((ofV (cs.toList[i])).toNat : Int) := by simp [stv]
    rw [e3, e2]
    simp only [ofV, Value.int.injEq, true_and]
    rw [BitVec.toNat_ofInt]
    show z = (((z % (2 ^ 64 : Nat)).toNat : Nat) : Int)
    have : ((2 ^ 64 : Nat) : Int) = 18446744073709551616 := by decide
    rw [this]
    omega
  rw [← key]
end
end Go.Proofs.Ytknlhbbkjgkjpaa
