/-
  No cell of these rows narrows 'for every input' (looked for: loops, veiled, ifaces, maps, wideKeys, modest, calm, conditions, laid).
  DERIVED. THE GIVEN ROWS OF THIS SEAT. 9 by the template 'for every input the law returns true; each argument reads behind the call as it read before'; 0 by the template 'total and deterministic' (their statements: YtknlhbbkjgkjpaaTotals.lean).
  GIVEN WITH THE SEED: the statements are not yours to turn. If you find one false, say at which input.
  Laid BY PROGRAM, IN A SANDBOX (cutbox-rows.mjs): the forced cells as the released guide's own fill.sh prints them over the translation 01eb4231888cdbcc… (all of the seat's roots in one cut). By AI agents, Wed Nov 11 2026. No macro, syntax, notation, axiom, sorry.
-/
import Derived.Test.YtknlhbbkjgkjpaaChecked
import GoSem.Claim
import GoSem.ClaimJoined
import GoSem.ClaimMapViews
import Derived.JoinedTies
import Derived.KernelRfl
namespace Go.Proofs.Ytknlhbbkjgkjpaa
/- THE CELL 'sum', in the pinned program and in every row, IS THE sha256 OF THE DUMP (.gsa) THAT YtknlhbbkjgkjpaaProg.lean LOADS. Nothing in Lean hashes anything: it is a label: what it is worth is what the hold of that sum in a sandbox is worth. -/
noncomputable def Try.pinned : Pinned := { name := "ytknlhbbkjgkjpaa", sum := "01eb4231888cdbcc8b90343b773004d988d8e8df814f134d962d6eac8db93435", checked := Try.checked }
namespace Rows
def none {H : Type} : Left H := { results := [], args := [] }

/-- 'parcloselaw03.LexWords': WHATEVER THE INPUT: true; the input reads as it did. -/
def lexWordsSpec : ChangeSpec := { name := "lexWords", fn := fun _ => fun
  | [d] => { results := [.lit (.bool true)], args := [d] }
  | _ => none }
def lexWordsRow : OpenClaim := { program := "ytknlhbbkjgkjpaa", sum := "01eb4231888cdbcc8b90343b773004d988d8e8df814f134d962d6eac8db93435", func := "parclose/parcloselaw03.LexWords", spec := "lexWords", apart := false }
def LexWordsSaid : Prop := lexWordsRow.holds Try.pinned (OpenSpec.ofChange lexWordsSpec)

/-- ITS FALSE NEIGHBOUR: 'it returns false'. Refute it at one input. -/
def lexWordsWrong : ChangeSpec := { name := "lexWords", fn := fun _ => fun
  | [d] => { results := [.lit (.bool false)], args := [d] }
  | _ => none }
def LexWordsWrongFalsely : Prop := lexWordsRow.holds Try.pinned (OpenSpec.ofChange lexWordsWrong)

/-- 'parcloselaw03.LexTwo': WHATEVER THE INPUT: true; the input reads as it did. -/
def lexTwoSpec : ChangeSpec := { name := "lexTwo", fn := fun _ => fun
  | [d1, d2] => { results := [.lit (.bool true)], args := [d1, d2] }
  | _ => none }
def lexTwoRow : OpenClaim := { program := "ytknlhbbkjgkjpaa", sum := "01eb4231888cdbcc8b90343b773004d988d8e8df814f134d962d6eac8db93435", func := "parclose/parcloselaw03.LexTwo", spec := "lexTwo", apart := false }
def LexTwoSaid : Prop := lexTwoRow.holds Try.pinned (OpenSpec.ofChange lexTwoSpec)

/-- ITS FALSE NEIGHBOUR: 'it returns false'. Refute it at one input. -/
def lexTwoWrong : ChangeSpec := { name := "lexTwo", fn := fun _ => fun
  | [d1, d2] => { results := [.lit (.bool false)], args := [d1, d2] }
  | _ => none }
def LexTwoWrongFalsely : Prop := lexTwoRow.holds Try.pinned (OpenSpec.ofChange lexTwoWrong)

/-- 'parcloselaw03.LexBlanks': WHATEVER THE INPUT: true; the input reads as it did. -/
def lexBlanksSpec : ChangeSpec := { name := "lexBlanks", fn := fun _ => fun
  | [d1, d2, d3] => { results := [.lit (.bool true)], args := [d1, d2, d3] }
  | _ => none }
def lexBlanksRow : OpenClaim := { program := "ytknlhbbkjgkjpaa", sum := "01eb4231888cdbcc8b90343b773004d988d8e8df814f134d962d6eac8db93435", func := "parclose/parcloselaw03.LexBlanks", spec := "lexBlanks", apart := false }
def LexBlanksSaid : Prop := lexBlanksRow.holds Try.pinned (OpenSpec.ofChange lexBlanksSpec)

/-- ITS FALSE NEIGHBOUR: 'it returns false'. Refute it at one input. -/
def lexBlanksWrong : ChangeSpec := { name := "lexBlanks", fn := fun _ => fun
  | [d1, d2, d3] => { results := [.lit (.bool false)], args := [d1, d2, d3] }
  | _ => none }
def LexBlanksWrongFalsely : Prop := lexBlanksRow.holds Try.pinned (OpenSpec.ofChange lexBlanksWrong)

/-- 'parcloselaw03.LexPlaces': WHATEVER THE INPUT: true; the input reads as it did. -/
def lexPlacesSpec : ChangeSpec := { name := "lexPlaces", fn := fun _ => fun
  | [d] => { results := [.lit (.bool true)], args := [d] }
  | _ => none }
def lexPlacesRow : OpenClaim := { program := "ytknlhbbkjgkjpaa", sum := "01eb4231888cdbcc8b90343b773004d988d8e8df814f134d962d6eac8db93435", func := "parclose/parcloselaw03.LexPlaces", spec := "lexPlaces", apart := false }
def LexPlacesSaid : Prop := lexPlacesRow.holds Try.pinned (OpenSpec.ofChange lexPlacesSpec)

/-- ITS FALSE NEIGHBOUR: 'it returns false'. Refute it at one input. -/
def lexPlacesWrong : ChangeSpec := { name := "lexPlaces", fn := fun _ => fun
  | [d] => { results := [.lit (.bool false)], args := [d] }
  | _ => none }
def LexPlacesWrongFalsely : Prop := lexPlacesRow.holds Try.pinned (OpenSpec.ofChange lexPlacesWrong)

/-- 'parcloselaw19.KeccakRounds': WHATEVER THE INPUT: true; the input reads as it did. -/
def keccakRoundsSpec : ChangeSpec := { name := "keccakRounds", fn := fun _ => fun
  | [d1, d2] => { results := [.lit (.bool true)], args := [d1, d2] }
  | _ => none }
def keccakRoundsRow : OpenClaim := { program := "ytknlhbbkjgkjpaa", sum := "01eb4231888cdbcc8b90343b773004d988d8e8df814f134d962d6eac8db93435", func := "parclose/parcloselaw19.KeccakRounds", spec := "keccakRounds", apart := false }
def KeccakRoundsSaid : Prop := keccakRoundsRow.holds Try.pinned (OpenSpec.ofChange keccakRoundsSpec)

/-- ITS FALSE NEIGHBOUR: 'it returns false'. Refute it at one input. -/
def keccakRoundsWrong : ChangeSpec := { name := "keccakRounds", fn := fun _ => fun
  | [d1, d2] => { results := [.lit (.bool false)], args := [d1, d2] }
  | _ => none }
def KeccakRoundsWrongFalsely : Prop := keccakRoundsRow.holds Try.pinned (OpenSpec.ofChange keccakRoundsWrong)

/-- 'parcloselaw19.KeccakMixes': WHATEVER THE INPUT: true; the input reads as it did. -/
def keccakMixesSpec : ChangeSpec := { name := "keccakMixes", fn := fun _ => fun
  | [d] => { results := [.lit (.bool true)], args := [d] }
  | _ => none }
def keccakMixesRow : OpenClaim := { program := "ytknlhbbkjgkjpaa", sum := "01eb4231888cdbcc8b90343b773004d988d8e8df814f134d962d6eac8db93435", func := "parclose/parcloselaw19.KeccakMixes", spec := "keccakMixes", apart := false }
def KeccakMixesSaid : Prop := keccakMixesRow.holds Try.pinned (OpenSpec.ofChange keccakMixesSpec)

/-- ITS FALSE NEIGHBOUR: 'it returns false'. Refute it at one input. -/
def keccakMixesWrong : ChangeSpec := { name := "keccakMixes", fn := fun _ => fun
  | [d] => { results := [.lit (.bool false)], args := [d] }
  | _ => none }
def KeccakMixesWrongFalsely : Prop := keccakMixesRow.holds Try.pinned (OpenSpec.ofChange keccakMixesWrong)

/-- 'parcloselaw19.KeccakOnto': WHATEVER THE INPUT: true; the input reads as it did. -/
def keccakOntoSpec : ChangeSpec := { name := "keccakOnto", fn := fun _ => fun
  | [d1, d2, d3] => { results := [.lit (.bool true)], args := [d1, d2, d3] }
  | _ => none }
def keccakOntoRow : OpenClaim := { program := "ytknlhbbkjgkjpaa", sum := "01eb4231888cdbcc8b90343b773004d988d8e8df814f134d962d6eac8db93435", func := "parclose/parcloselaw19.KeccakOnto", spec := "keccakOnto", apart := false }
def KeccakOntoSaid : Prop := keccakOntoRow.holds Try.pinned (OpenSpec.ofChange keccakOntoSpec)

/-- ITS FALSE NEIGHBOUR: 'it returns false'. Refute it at one input. -/
def keccakOntoWrong : ChangeSpec := { name := "keccakOnto", fn := fun _ => fun
  | [d1, d2, d3] => { results := [.lit (.bool false)], args := [d1, d2, d3] }
  | _ => none }
def KeccakOntoWrongFalsely : Prop := keccakOntoRow.holds Try.pinned (OpenSpec.ofChange keccakOntoWrong)

/-- 'parcloselaw19.KeccakSteps': WHATEVER THE INPUT: true; the input reads as it did. -/
def keccakStepsSpec : ChangeSpec := { name := "keccakSteps", fn := fun _ => fun
  | [d] => { results := [.lit (.bool true)], args := [d] }
  | _ => none }
def keccakStepsRow : OpenClaim := { program := "ytknlhbbkjgkjpaa", sum := "01eb4231888cdbcc8b90343b773004d988d8e8df814f134d962d6eac8db93435", func := "parclose/parcloselaw19.KeccakSteps", spec := "keccakSteps", apart := false }
def KeccakStepsSaid : Prop := keccakStepsRow.holds Try.pinned (OpenSpec.ofChange keccakStepsSpec)

/-- ITS FALSE NEIGHBOUR: 'it returns false'. Refute it at one input. -/
def keccakStepsWrong : ChangeSpec := { name := "keccakSteps", fn := fun _ => fun
  | [d] => { results := [.lit (.bool false)], args := [d] }
  | _ => none }
def KeccakStepsWrongFalsely : Prop := keccakStepsRow.holds Try.pinned (OpenSpec.ofChange keccakStepsWrong)

/-- 'parcloselaw19.KeccakLinear': WHATEVER THE INPUT: true; the input reads as it did. -/
def keccakLinearSpec : ChangeSpec := { name := "keccakLinear", fn := fun _ => fun
  | [d1, d2, d3, d4] => { results := [.lit (.bool true)], args := [d1, d2, d3, d4] }
  | _ => none }
def keccakLinearRow : OpenClaim := { program := "ytknlhbbkjgkjpaa", sum := "01eb4231888cdbcc8b90343b773004d988d8e8df814f134d962d6eac8db93435", func := "parclose/parcloselaw19.KeccakLinear", spec := "keccakLinear", apart := false }
def KeccakLinearSaid : Prop := keccakLinearRow.holds Try.pinned (OpenSpec.ofChange keccakLinearSpec)

/-- ITS FALSE NEIGHBOUR: 'it returns false'. Refute it at one input. -/
def keccakLinearWrong : ChangeSpec := { name := "keccakLinear", fn := fun _ => fun
  | [d1, d2, d3, d4] => { results := [.lit (.bool false)], args := [d1, d2, d3, d4] }
  | _ => none }
def KeccakLinearWrongFalsely : Prop := keccakLinearRow.holds Try.pinned (OpenSpec.ofChange keccakLinearWrong)

/- THE SECOND FORM. 'bulk': how many values and letters a reading holds, each counted each time it is reached (what is shared counts as often as it is met; a slice's spare places count too). A statement '..UptoSaid' is the law's where the arguments, and the package variables that the reading takes, are together of bulk at most 1048576: NARROWER than '..Said'. Prove '..Said' where nothing that the law and all that it calls make is longer than what came in: it says more and counts as full. Else prove '..UptoSaid'. A law counts once. -/
mutual
def uptoBulk {H : Type} : DataW H → Nat
  | .lit (.string bytes) => bytes.length + 1
  | .lit _ => 1
  | .nil => 1
  | .ptr d => uptoBulk d + 1
  | .slice elems spare => uptoBulkAll elems + uptoBulkAll spare + 1
  | .agg parts => uptoBulkAll parts + 1
  | .iface _ d => uptoBulk d + 1
  | .map entries => uptoBulkEntries entries + 1
  | .held _ => 1
def uptoBulkAll {H : Type} : List (DataW H) → Nat
  | [] => 0
  | d :: r => uptoBulk d + uptoBulkAll r
def uptoBulkEntries {H : Type} : List (Lit × DataW H) → Nat
  | [] => 0
  | x :: r => uptoBulkEntry x + uptoBulkEntries r
def uptoBulkEntry {H : Type} : Lit × DataW H → Nat
  | (.string bytes, d) => bytes.length + uptoBulk d + 1
  | (_, d) => uptoBulk d + 1
 end
def uptoSmall : (H : Type) → List (DataW H) → Bool := fun _ ds => decide (uptoBulkAll ds ≤ 1048576)
def OpenSpec.upto (s : _root_.Go.ChangeSpec) : _root_.Go.OpenSpec := { _root_.Go.OpenSpec.ofChange s with cond := some uptoSmall }

/-- 'parcloselaw03.LexWords', WHERE WHAT IT READS IS OF BULK AT MOST 1048576: true; the input reads as it did. -/
def lexWordsUptoRow : OpenClaim := { program := "ytknlhbbkjgkjpaa", sum := "01eb4231888cdbcc8b90343b773004d988d8e8df814f134d962d6eac8db93435", func := "parclose/parcloselaw03.LexWords", spec := "lexWords", apart := false, narrowed := true }
def LexWordsUptoSaid : Prop := lexWordsUptoRow.holds Try.pinned (OpenSpec.upto lexWordsSpec)

/-- 'parcloselaw03.LexTwo', WHERE WHAT IT READS IS OF BULK AT MOST 1048576: true; the input reads as it did. -/
def lexTwoUptoRow : OpenClaim := { program := "ytknlhbbkjgkjpaa", sum := "01eb4231888cdbcc8b90343b773004d988d8e8df814f134d962d6eac8db93435", func := "parclose/parcloselaw03.LexTwo", spec := "lexTwo", apart := false, narrowed := true }
def LexTwoUptoSaid : Prop := lexTwoUptoRow.holds Try.pinned (OpenSpec.upto lexTwoSpec)

/-- 'parcloselaw03.LexBlanks', WHERE WHAT IT READS IS OF BULK AT MOST 1048576: true; the input reads as it did. -/
def lexBlanksUptoRow : OpenClaim := { program := "ytknlhbbkjgkjpaa", sum := "01eb4231888cdbcc8b90343b773004d988d8e8df814f134d962d6eac8db93435", func := "parclose/parcloselaw03.LexBlanks", spec := "lexBlanks", apart := false, narrowed := true }
def LexBlanksUptoSaid : Prop := lexBlanksUptoRow.holds Try.pinned (OpenSpec.upto lexBlanksSpec)

/-- 'parcloselaw03.LexPlaces', WHERE WHAT IT READS IS OF BULK AT MOST 1048576: true; the input reads as it did. -/
def lexPlacesUptoRow : OpenClaim := { program := "ytknlhbbkjgkjpaa", sum := "01eb4231888cdbcc8b90343b773004d988d8e8df814f134d962d6eac8db93435", func := "parclose/parcloselaw03.LexPlaces", spec := "lexPlaces", apart := false, narrowed := true }
def LexPlacesUptoSaid : Prop := lexPlacesUptoRow.holds Try.pinned (OpenSpec.upto lexPlacesSpec)

/-- 'parcloselaw19.KeccakRounds', WHERE WHAT IT READS IS OF BULK AT MOST 1048576: true; the input reads as it did. -/
def keccakRoundsUptoRow : OpenClaim := { program := "ytknlhbbkjgkjpaa", sum := "01eb4231888cdbcc8b90343b773004d988d8e8df814f134d962d6eac8db93435", func := "parclose/parcloselaw19.KeccakRounds", spec := "keccakRounds", apart := false, narrowed := true }
def KeccakRoundsUptoSaid : Prop := keccakRoundsUptoRow.holds Try.pinned (OpenSpec.upto keccakRoundsSpec)

/-- 'parcloselaw19.KeccakMixes', WHERE WHAT IT READS IS OF BULK AT MOST 1048576: true; the input reads as it did. -/
def keccakMixesUptoRow : OpenClaim := { program := "ytknlhbbkjgkjpaa", sum := "01eb4231888cdbcc8b90343b773004d988d8e8df814f134d962d6eac8db93435", func := "parclose/parcloselaw19.KeccakMixes", spec := "keccakMixes", apart := false, narrowed := true }
def KeccakMixesUptoSaid : Prop := keccakMixesUptoRow.holds Try.pinned (OpenSpec.upto keccakMixesSpec)

/-- 'parcloselaw19.KeccakOnto', WHERE WHAT IT READS IS OF BULK AT MOST 1048576: true; the input reads as it did. -/
def keccakOntoUptoRow : OpenClaim := { program := "ytknlhbbkjgkjpaa", sum := "01eb4231888cdbcc8b90343b773004d988d8e8df814f134d962d6eac8db93435", func := "parclose/parcloselaw19.KeccakOnto", spec := "keccakOnto", apart := false, narrowed := true }
def KeccakOntoUptoSaid : Prop := keccakOntoUptoRow.holds Try.pinned (OpenSpec.upto keccakOntoSpec)

/-- 'parcloselaw19.KeccakSteps', WHERE WHAT IT READS IS OF BULK AT MOST 1048576: true; the input reads as it did. -/
def keccakStepsUptoRow : OpenClaim := { program := "ytknlhbbkjgkjpaa", sum := "01eb4231888cdbcc8b90343b773004d988d8e8df814f134d962d6eac8db93435", func := "parclose/parcloselaw19.KeccakSteps", spec := "keccakSteps", apart := false, narrowed := true }
def KeccakStepsUptoSaid : Prop := keccakStepsUptoRow.holds Try.pinned (OpenSpec.upto keccakStepsSpec)

/-- 'parcloselaw19.KeccakLinear', WHERE WHAT IT READS IS OF BULK AT MOST 1048576: true; the input reads as it did. -/
def keccakLinearUptoRow : OpenClaim := { program := "ytknlhbbkjgkjpaa", sum := "01eb4231888cdbcc8b90343b773004d988d8e8df814f134d962d6eac8db93435", func := "parclose/parcloselaw19.KeccakLinear", spec := "keccakLinear", apart := false, narrowed := true }
def KeccakLinearUptoSaid : Prop := keccakLinearUptoRow.holds Try.pinned (OpenSpec.upto keccakLinearSpec)

end Rows
end Go.Proofs.Ytknlhbbkjgkjpaa
