/-
  No cell of these rows narrows 'for every input' (looked for: loops, veiled, ifaces, maps, wideKeys, modest, calm, conditions, laid).
  DERIVED. THE GIVEN ROWS OF THIS SEAT. 9 by the template 'for every input the law returns true; each argument reads behind the call as it read before'; 0 by the template 'total and deterministic' (their statements: YtcbnbnlioajadaaTotals.lean).
  GIVEN WITH THE SEED: the statements are not yours to turn. If you find one false, say at which input.
  Laid BY PROGRAM, IN A SANDBOX (cutbox-rows.mjs): the forced cells as the released guide's own fill.sh prints them over the translation faae68e6b4681c14… (all of the seat's roots in one cut). By AI agents, Wed Nov 11 2026. No macro, syntax, notation, axiom, sorry.
-/
import Derived.Test.YtcbnbnlioajadaaChecked
import GoSem.Claim
import GoSem.ClaimJoined
import GoSem.ClaimMapViews
import Derived.JoinedTies
import Derived.KernelRfl
namespace Go.Proofs.Ytcbnbnlioajadaa
/- THE CELL 'sum', in the pinned program and in every row, IS THE sha256 OF THE DUMP (.gsa) THAT YtcbnbnlioajadaaProg.lean LOADS. Nothing in Lean hashes anything: it is a label: what it is worth is what the hold of that sum in a sandbox is worth. -/
noncomputable def Try.pinned : Pinned := { name := "ytcbnbnlioajadaa", sum := "faae68e6b4681c145729c261f5a97d95d423e3353cb41a3816e2618783566716", checked := Try.checked }
namespace Rows
def none {H : Type} : Left H := { results := [], args := [] }

/-- 'parcloselaw14.CondPlays': WHATEVER THE INPUT: true; the input reads as it did. -/
def condPlaysSpec : ChangeSpec := { name := "condPlays", fn := fun _ => fun
  | [d] => { results := [.lit (.bool true)], args := [d] }
  | _ => none }
def condPlaysRow : OpenClaim := { program := "ytcbnbnlioajadaa", sum := "faae68e6b4681c145729c261f5a97d95d423e3353cb41a3816e2618783566716", func := "parclose/parcloselaw14.CondPlays", spec := "condPlays", apart := false }
def CondPlaysSaid : Prop := condPlaysRow.holds Try.pinned (OpenSpec.ofChange condPlaysSpec)

/-- ITS FALSE NEIGHBOUR: 'it returns false'. Refute it at one input. -/
def condPlaysWrong : ChangeSpec := { name := "condPlays", fn := fun _ => fun
  | [d] => { results := [.lit (.bool false)], args := [d] }
  | _ => none }
def CondPlaysWrongFalsely : Prop := condPlaysRow.holds Try.pinned (OpenSpec.ofChange condPlaysWrong)

/-- 'parcloselaw14.CondOrder': WHATEVER THE INPUT: true; the input reads as it did. -/
def condOrderSpec : ChangeSpec := { name := "condOrder", fn := fun _ => fun
  | [d1, d2, d3] => { results := [.lit (.bool true)], args := [d1, d2, d3] }
  | _ => none }
def condOrderRow : OpenClaim := { program := "ytcbnbnlioajadaa", sum := "faae68e6b4681c145729c261f5a97d95d423e3353cb41a3816e2618783566716", func := "parclose/parcloselaw14.CondOrder", spec := "condOrder", apart := false }
def CondOrderSaid : Prop := condOrderRow.holds Try.pinned (OpenSpec.ofChange condOrderSpec)

/-- ITS FALSE NEIGHBOUR: 'it returns false'. Refute it at one input. -/
def condOrderWrong : ChangeSpec := { name := "condOrder", fn := fun _ => fun
  | [d1, d2, d3] => { results := [.lit (.bool false)], args := [d1, d2, d3] }
  | _ => none }
def CondOrderWrongFalsely : Prop := condOrderRow.holds Try.pinned (OpenSpec.ofChange condOrderWrong)

/-- 'parcloselaw14.CondOnce': WHATEVER THE INPUT: true; the input reads as it did. -/
def condOnceSpec : ChangeSpec := { name := "condOnce", fn := fun _ => fun
  | [d1, d2, d3] => { results := [.lit (.bool true)], args := [d1, d2, d3] }
  | _ => none }
def condOnceRow : OpenClaim := { program := "ytcbnbnlioajadaa", sum := "faae68e6b4681c145729c261f5a97d95d423e3353cb41a3816e2618783566716", func := "parclose/parcloselaw14.CondOnce", spec := "condOnce", apart := false }
def CondOnceSaid : Prop := condOnceRow.holds Try.pinned (OpenSpec.ofChange condOnceSpec)

/-- ITS FALSE NEIGHBOUR: 'it returns false'. Refute it at one input. -/
def condOnceWrong : ChangeSpec := { name := "condOnce", fn := fun _ => fun
  | [d1, d2, d3] => { results := [.lit (.bool false)], args := [d1, d2, d3] }
  | _ => none }
def CondOnceWrongFalsely : Prop := condOnceRow.holds Try.pinned (OpenSpec.ofChange condOnceWrong)

/-- 'parcloselaw14.CondNone': WHATEVER THE INPUT: true; the input reads as it did. -/
def condNoneSpec : ChangeSpec := { name := "condNone", fn := fun _ => fun
  | [d] => { results := [.lit (.bool true)], args := [d] }
  | _ => none }
def condNoneRow : OpenClaim := { program := "ytcbnbnlioajadaa", sum := "faae68e6b4681c145729c261f5a97d95d423e3353cb41a3816e2618783566716", func := "parclose/parcloselaw14.CondNone", spec := "condNone", apart := false }
def CondNoneSaid : Prop := condNoneRow.holds Try.pinned (OpenSpec.ofChange condNoneSpec)

/-- ITS FALSE NEIGHBOUR: 'it returns false'. Refute it at one input. -/
def condNoneWrong : ChangeSpec := { name := "condNone", fn := fun _ => fun
  | [d] => { results := [.lit (.bool false)], args := [d] }
  | _ => none }
def CondNoneWrongFalsely : Prop := condNoneRow.holds Try.pinned (OpenSpec.ofChange condNoneWrong)

/-- 'parcloselaw11.MutexPlays': WHATEVER THE INPUT: true; the input reads as it did. -/
def mutexPlaysSpec : ChangeSpec := { name := "mutexPlays", fn := fun _ => fun
  | [d] => { results := [.lit (.bool true)], args := [d] }
  | _ => none }
def mutexPlaysRow : OpenClaim := { program := "ytcbnbnlioajadaa", sum := "faae68e6b4681c145729c261f5a97d95d423e3353cb41a3816e2618783566716", func := "parclose/parcloselaw11.MutexPlays", spec := "mutexPlays", apart := false }
def MutexPlaysSaid : Prop := mutexPlaysRow.holds Try.pinned (OpenSpec.ofChange mutexPlaysSpec)

/-- ITS FALSE NEIGHBOUR: 'it returns false'. Refute it at one input. -/
def mutexPlaysWrong : ChangeSpec := { name := "mutexPlays", fn := fun _ => fun
  | [d] => { results := [.lit (.bool false)], args := [d] }
  | _ => none }
def MutexPlaysWrongFalsely : Prop := mutexPlaysRow.holds Try.pinned (OpenSpec.ofChange mutexPlaysWrong)

/-- 'parcloselaw11.MutexAlone': WHATEVER THE INPUT: true; the input reads as it did. -/
def mutexAloneSpec : ChangeSpec := { name := "mutexAlone", fn := fun _ => fun
  | [d] => { results := [.lit (.bool true)], args := [d] }
  | _ => none }
def mutexAloneRow : OpenClaim := { program := "ytcbnbnlioajadaa", sum := "faae68e6b4681c145729c261f5a97d95d423e3353cb41a3816e2618783566716", func := "parclose/parcloselaw11.MutexAlone", spec := "mutexAlone", apart := false }
def MutexAloneSaid : Prop := mutexAloneRow.holds Try.pinned (OpenSpec.ofChange mutexAloneSpec)

/-- ITS FALSE NEIGHBOUR: 'it returns false'. Refute it at one input. -/
def mutexAloneWrong : ChangeSpec := { name := "mutexAlone", fn := fun _ => fun
  | [d] => { results := [.lit (.bool false)], args := [d] }
  | _ => none }
def MutexAloneWrongFalsely : Prop := mutexAloneRow.holds Try.pinned (OpenSpec.ofChange mutexAloneWrong)

/-- 'parcloselaw11.MutexTries': WHATEVER THE INPUT: true; the input reads as it did. -/
def mutexTriesSpec : ChangeSpec := { name := "mutexTries", fn := fun _ => fun
  | [d1, d2, d3] => { results := [.lit (.bool true)], args := [d1, d2, d3] }
  | _ => none }
def mutexTriesRow : OpenClaim := { program := "ytcbnbnlioajadaa", sum := "faae68e6b4681c145729c261f5a97d95d423e3353cb41a3816e2618783566716", func := "parclose/parcloselaw11.MutexTries", spec := "mutexTries", apart := false }
def MutexTriesSaid : Prop := mutexTriesRow.holds Try.pinned (OpenSpec.ofChange mutexTriesSpec)

/-- ITS FALSE NEIGHBOUR: 'it returns false'. Refute it at one input. -/
def mutexTriesWrong : ChangeSpec := { name := "mutexTries", fn := fun _ => fun
  | [d1, d2, d3] => { results := [.lit (.bool false)], args := [d1, d2, d3] }
  | _ => none }
def MutexTriesWrongFalsely : Prop := mutexTriesRow.holds Try.pinned (OpenSpec.ofChange mutexTriesWrong)

/-- 'parcloselaw11.MutexDrops': WHATEVER THE INPUT: true; the input reads as it did. -/
def mutexDropsSpec : ChangeSpec := { name := "mutexDrops", fn := fun _ => fun
  | [d1, d2] => { results := [.lit (.bool true)], args := [d1, d2] }
  | _ => none }
def mutexDropsRow : OpenClaim := { program := "ytcbnbnlioajadaa", sum := "faae68e6b4681c145729c261f5a97d95d423e3353cb41a3816e2618783566716", func := "parclose/parcloselaw11.MutexDrops", spec := "mutexDrops", apart := false }
def MutexDropsSaid : Prop := mutexDropsRow.holds Try.pinned (OpenSpec.ofChange mutexDropsSpec)

/-- ITS FALSE NEIGHBOUR: 'it returns false'. Refute it at one input. -/
def mutexDropsWrong : ChangeSpec := { name := "mutexDrops", fn := fun _ => fun
  | [d1, d2] => { results := [.lit (.bool false)], args := [d1, d2] }
  | _ => none }
def MutexDropsWrongFalsely : Prop := mutexDropsRow.holds Try.pinned (OpenSpec.ofChange mutexDropsWrong)

/-- 'parcloselaw11.MutexNone': WHATEVER THE INPUT: true; the input reads as it did. -/
def mutexNoneSpec : ChangeSpec := { name := "mutexNone", fn := fun _ => fun
  | [d] => { results := [.lit (.bool true)], args := [d] }
  | _ => none }
def mutexNoneRow : OpenClaim := { program := "ytcbnbnlioajadaa", sum := "faae68e6b4681c145729c261f5a97d95d423e3353cb41a3816e2618783566716", func := "parclose/parcloselaw11.MutexNone", spec := "mutexNone", apart := false }
def MutexNoneSaid : Prop := mutexNoneRow.holds Try.pinned (OpenSpec.ofChange mutexNoneSpec)

/-- ITS FALSE NEIGHBOUR: 'it returns false'. Refute it at one input. -/
def mutexNoneWrong : ChangeSpec := { name := "mutexNone", fn := fun _ => fun
  | [d] => { results := [.lit (.bool false)], args := [d] }
  | _ => none }
def MutexNoneWrongFalsely : Prop := mutexNoneRow.holds Try.pinned (OpenSpec.ofChange mutexNoneWrong)

/- THE SECOND FORM. 'bulk': how many values and letters a reading holds, each counted each time it is reached (what is shared counts as often as it is met; a slice's spare places count too). A statement '..UptoSaid' is the law's where the arguments, and the package variables that the reading takes, are together of bulk at most 1048576: NARROWER than '..Said'. Prove '..Said' where nothing that the law and all that it calls make is longer than what came in: it says more and counts as full. Else prove '..UptoSaid'. A law counts once. -/
mutual
def uptoBulk {H : Type} : DataW H → Nat
  | .lit (.string bytes) => bytes.length + 1
  | .lit _ => 1
  | .nil => 1
  | .ptr d => uptoBulk d + 1
  | .slice elems spare => uptoBulkAll elems + uptoBulkAll spare + 1
  | .agg parts => uptoBulkAll parts + 1
  | .iface _ d => uptoBulk d + 1
  | .map entries => uptoBulkEntries entries + 1
  | .held _ => 1
def uptoBulkAll {H : Type} : List (DataW H) → Nat
  | [] => 0
  | d :: r => uptoBulk d + uptoBulkAll r
def uptoBulkEntries {H : Type} : List (Lit × DataW H) → Nat
  | [] => 0
  | x :: r => uptoBulkEntry x + uptoBulkEntries r
def uptoBulkEntry {H : Type} : Lit × DataW H → Nat
  | (.string bytes, d) => bytes.length + uptoBulk d + 1
  | (_, d) => uptoBulk d + 1
 end
def uptoSmall : (H : Type) → List (DataW H) → Bool := fun _ ds => decide (uptoBulkAll ds ≤ 1048576)
def OpenSpec.upto (s : _root_.Go.ChangeSpec) : _root_.Go.OpenSpec := { _root_.Go.OpenSpec.ofChange s with cond := some uptoSmall }

/-- 'parcloselaw14.CondPlays', WHERE WHAT IT READS IS OF BULK AT MOST 1048576: true; the input reads as it did. -/
def condPlaysUptoRow : OpenClaim := { program := "ytcbnbnlioajadaa", sum := "faae68e6b4681c145729c261f5a97d95d423e3353cb41a3816e2618783566716", func := "parclose/parcloselaw14.CondPlays", spec := "condPlays", apart := false, narrowed := true }
def CondPlaysUptoSaid : Prop := condPlaysUptoRow.holds Try.pinned (OpenSpec.upto condPlaysSpec)

/-- 'parcloselaw14.CondOrder', WHERE WHAT IT READS IS OF BULK AT MOST 1048576: true; the input reads as it did. -/
def condOrderUptoRow : OpenClaim := { program := "ytcbnbnlioajadaa", sum := "faae68e6b4681c145729c261f5a97d95d423e3353cb41a3816e2618783566716", func := "parclose/parcloselaw14.CondOrder", spec := "condOrder", apart := false, narrowed := true }
def CondOrderUptoSaid : Prop := condOrderUptoRow.holds Try.pinned (OpenSpec.upto condOrderSpec)

/-- 'parcloselaw14.CondOnce', WHERE WHAT IT READS IS OF BULK AT MOST 1048576: true; the input reads as it did. -/
def condOnceUptoRow : OpenClaim := { program := "ytcbnbnlioajadaa", sum := "faae68e6b4681c145729c261f5a97d95d423e3353cb41a3816e2618783566716", func := "parclose/parcloselaw14.CondOnce", spec := "condOnce", apart := false, narrowed := true }
def CondOnceUptoSaid : Prop := condOnceUptoRow.holds Try.pinned (OpenSpec.upto condOnceSpec)

/-- 'parcloselaw14.CondNone', WHERE WHAT IT READS IS OF BULK AT MOST 1048576: true; the input reads as it did. -/
def condNoneUptoRow : OpenClaim := { program := "ytcbnbnlioajadaa", sum := "faae68e6b4681c145729c261f5a97d95d423e3353cb41a3816e2618783566716", func := "parclose/parcloselaw14.CondNone", spec := "condNone", apart := false, narrowed := true }
def CondNoneUptoSaid : Prop := condNoneUptoRow.holds Try.pinned (OpenSpec.upto condNoneSpec)

/-- 'parcloselaw11.MutexPlays', WHERE WHAT IT READS IS OF BULK AT MOST 1048576: true; the input reads as it did. -/
def mutexPlaysUptoRow : OpenClaim := { program := "ytcbnbnlioajadaa", sum := "faae68e6b4681c145729c261f5a97d95d423e3353cb41a3816e2618783566716", func := "parclose/parcloselaw11.MutexPlays", spec := "mutexPlays", apart := false, narrowed := true }
def MutexPlaysUptoSaid : Prop := mutexPlaysUptoRow.holds Try.pinned (OpenSpec.upto mutexPlaysSpec)

/-- 'parcloselaw11.MutexAlone', WHERE WHAT IT READS IS OF BULK AT MOST 1048576: true; the input reads as it did. -/
def mutexAloneUptoRow : OpenClaim := { program := "ytcbnbnlioajadaa", sum := "faae68e6b4681c145729c261f5a97d95d423e3353cb41a3816e2618783566716", func := "parclose/parcloselaw11.MutexAlone", spec := "mutexAlone", apart := false, narrowed := true }
def MutexAloneUptoSaid : Prop := mutexAloneUptoRow.holds Try.pinned (OpenSpec.upto mutexAloneSpec)

/-- 'parcloselaw11.MutexTries', WHERE WHAT IT READS IS OF BULK AT MOST 1048576: true; the input reads as it did. -/
def mutexTriesUptoRow : OpenClaim := { program := "ytcbnbnlioajadaa", sum := "faae68e6b4681c145729c261f5a97d95d423e3353cb41a3816e2618783566716", func := "parclose/parcloselaw11.MutexTries", spec := "mutexTries", apart := false, narrowed := true }
def MutexTriesUptoSaid : Prop := mutexTriesUptoRow.holds Try.pinned (OpenSpec.upto mutexTriesSpec)

/-- 'parcloselaw11.MutexDrops', WHERE WHAT IT READS IS OF BULK AT MOST 1048576: true; the input reads as it did. -/
def mutexDropsUptoRow : OpenClaim := { program := "ytcbnbnlioajadaa", sum := "faae68e6b4681c145729c261f5a97d95d423e3353cb41a3816e2618783566716", func := "parclose/parcloselaw11.MutexDrops", spec := "mutexDrops", apart := false, narrowed := true }
def MutexDropsUptoSaid : Prop := mutexDropsUptoRow.holds Try.pinned (OpenSpec.upto mutexDropsSpec)

/-- 'parcloselaw11.MutexNone', WHERE WHAT IT READS IS OF BULK AT MOST 1048576: true; the input reads as it did. -/
def mutexNoneUptoRow : OpenClaim := { program := "ytcbnbnlioajadaa", sum := "faae68e6b4681c145729c261f5a97d95d423e3353cb41a3816e2618783566716", func := "parclose/parcloselaw11.MutexNone", spec := "mutexNone", apart := false, narrowed := true }
def MutexNoneUptoSaid : Prop := mutexNoneUptoRow.holds Try.pinned (OpenSpec.upto mutexNoneSpec)

end Rows
end Go.Proofs.Ytcbnbnlioajadaa
