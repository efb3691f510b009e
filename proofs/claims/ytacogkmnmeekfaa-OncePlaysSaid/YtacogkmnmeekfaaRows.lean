/-
  No cell of these rows narrows 'for every input' (looked for: loops, veiled, ifaces, maps, wideKeys, modest, calm, conditions, laid).
  DERIVED. THE GIVEN ROWS OF THIS SEAT. 9 by the template 'for every input the law returns true; each argument reads behind the call as it read before'; 0 by the template 'total and deterministic' (their statements: YtacogkmnmeekfaaTotals.lean).
  GIVEN WITH THE SEED: the statements are not yours to turn. If you find one false, say at which input.
  Laid BY PROGRAM, IN A SANDBOX (cutbox-rows.mjs): the forced cells as the released guide's own fill.sh prints them over the translation 608addb48a6b6886… (all of the seat's roots in one cut). By AI agents, Wed Nov 11 2026. No macro, syntax, notation, axiom, sorry.
-/
import Derived.Test.YtacogkmnmeekfaaChecked
import GoSem.Claim
import GoSem.ClaimJoined
import GoSem.ClaimMapViews
import Derived.JoinedTies
import Derived.KernelRfl
namespace Go.Proofs.Ytacogkmnmeekfaa
/- THE CELL 'sum', in the pinned program and in every row, IS THE sha256 OF THE DUMP (.gsa) THAT YtacogkmnmeekfaaProg.lean LOADS. Nothing in Lean hashes anything: it is a label: what it is worth is what the hold of that sum in a sandbox is worth. -/
noncomputable def Try.pinned : Pinned := { name := "ytacogkmnmeekfaa", sum := "608addb48a6b688695a3c8e72b544deb7b101f409311d7d1ee072ec31839054c", checked := Try.checked }
namespace Rows
def none {H : Type} : Left H := { results := [], args := [] }

/-- 'parcloselaw15.OnceOne': WHATEVER THE INPUT: true; the input reads as it did. -/
def onceOneSpec : ChangeSpec := { name := "onceOne", fn := fun _ => fun
  | [d] => { results := [.lit (.bool true)], args := [d] }
  | _ => none }
def onceOneRow : OpenClaim := { program := "ytacogkmnmeekfaa", sum := "608addb48a6b688695a3c8e72b544deb7b101f409311d7d1ee072ec31839054c", func := "parclose/parcloselaw15.OnceOne", spec := "onceOne", apart := false }
def OnceOneSaid : Prop := onceOneRow.holds Try.pinned (OpenSpec.ofChange onceOneSpec)

/-- ITS FALSE NEIGHBOUR: 'it returns false'. Refute it at one input. -/
def onceOneWrong : ChangeSpec := { name := "onceOne", fn := fun _ => fun
  | [d] => { results := [.lit (.bool false)], args := [d] }
  | _ => none }
def OnceOneWrongFalsely : Prop := onceOneRow.holds Try.pinned (OpenSpec.ofChange onceOneWrong)

/-- 'parcloselaw16.GroupWakes': WHATEVER THE INPUT: true; the input reads as it did. -/
def groupWakesSpec : ChangeSpec := { name := "groupWakes", fn := fun _ => fun
  | [d1, d2] => { results := [.lit (.bool true)], args := [d1, d2] }
  | _ => none }
def groupWakesRow : OpenClaim := { program := "ytacogkmnmeekfaa", sum := "608addb48a6b688695a3c8e72b544deb7b101f409311d7d1ee072ec31839054c", func := "parclose/parcloselaw16.GroupWakes", spec := "groupWakes", apart := false }
def GroupWakesSaid : Prop := groupWakesRow.holds Try.pinned (OpenSpec.ofChange groupWakesSpec)

/-- ITS FALSE NEIGHBOUR: 'it returns false'. Refute it at one input. -/
def groupWakesWrong : ChangeSpec := { name := "groupWakes", fn := fun _ => fun
  | [d1, d2] => { results := [.lit (.bool false)], args := [d1, d2] }
  | _ => none }
def GroupWakesWrongFalsely : Prop := groupWakesRow.holds Try.pinned (OpenSpec.ofChange groupWakesWrong)

/-- 'parcloselaw16.GroupEnds': WHATEVER THE INPUT: true; the input reads as it did. -/
def groupEndsSpec : ChangeSpec := { name := "groupEnds", fn := fun _ => fun
  | [d1, d2] => { results := [.lit (.bool true)], args := [d1, d2] }
  | _ => none }
def groupEndsRow : OpenClaim := { program := "ytacogkmnmeekfaa", sum := "608addb48a6b688695a3c8e72b544deb7b101f409311d7d1ee072ec31839054c", func := "parclose/parcloselaw16.GroupEnds", spec := "groupEnds", apart := false }
def GroupEndsSaid : Prop := groupEndsRow.holds Try.pinned (OpenSpec.ofChange groupEndsSpec)

/-- ITS FALSE NEIGHBOUR: 'it returns false'. Refute it at one input. -/
def groupEndsWrong : ChangeSpec := { name := "groupEnds", fn := fun _ => fun
  | [d1, d2] => { results := [.lit (.bool false)], args := [d1, d2] }
  | _ => none }
def GroupEndsWrongFalsely : Prop := groupEndsRow.holds Try.pinned (OpenSpec.ofChange groupEndsWrong)

/-- 'parcloselaw16.GroupSums': WHATEVER THE INPUT: true; the input reads as it did. -/
def groupSumsSpec : ChangeSpec := { name := "groupSums", fn := fun _ => fun
  | [d] => { results := [.lit (.bool true)], args := [d] }
  | _ => none }
def groupSumsRow : OpenClaim := { program := "ytacogkmnmeekfaa", sum := "608addb48a6b688695a3c8e72b544deb7b101f409311d7d1ee072ec31839054c", func := "parclose/parcloselaw16.GroupSums", spec := "groupSums", apart := false }
def GroupSumsSaid : Prop := groupSumsRow.holds Try.pinned (OpenSpec.ofChange groupSumsSpec)

/-- ITS FALSE NEIGHBOUR: 'it returns false'. Refute it at one input. -/
def groupSumsWrong : ChangeSpec := { name := "groupSums", fn := fun _ => fun
  | [d] => { results := [.lit (.bool false)], args := [d] }
  | _ => none }
def GroupSumsWrongFalsely : Prop := groupSumsRow.holds Try.pinned (OpenSpec.ofChange groupSumsWrong)

/-- 'parcloselaw15.OnceWakes': WHATEVER THE INPUT: true; the input reads as it did. -/
def onceWakesSpec : ChangeSpec := { name := "onceWakes", fn := fun _ => fun
  | [d1, d2, d3] => { results := [.lit (.bool true)], args := [d1, d2, d3] }
  | _ => none }
def onceWakesRow : OpenClaim := { program := "ytacogkmnmeekfaa", sum := "608addb48a6b688695a3c8e72b544deb7b101f409311d7d1ee072ec31839054c", func := "parclose/parcloselaw15.OnceWakes", spec := "onceWakes", apart := false }
def OnceWakesSaid : Prop := onceWakesRow.holds Try.pinned (OpenSpec.ofChange onceWakesSpec)

/-- ITS FALSE NEIGHBOUR: 'it returns false'. Refute it at one input. -/
def onceWakesWrong : ChangeSpec := { name := "onceWakes", fn := fun _ => fun
  | [d1, d2, d3] => { results := [.lit (.bool false)], args := [d1, d2, d3] }
  | _ => none }
def OnceWakesWrongFalsely : Prop := onceWakesRow.holds Try.pinned (OpenSpec.ofChange onceWakesWrong)

/-- 'parcloselaw15.OncePlays': WHATEVER THE INPUT: true; the input reads as it did. -/
def oncePlaysSpec : ChangeSpec := { name := "oncePlays", fn := fun _ => fun
  | [d] => { results := [.lit (.bool true)], args := [d] }
  | _ => none }
def oncePlaysRow : OpenClaim := { program := "ytacogkmnmeekfaa", sum := "608addb48a6b688695a3c8e72b544deb7b101f409311d7d1ee072ec31839054c", func := "parclose/parcloselaw15.OncePlays", spec := "oncePlays", apart := false }
def OncePlaysSaid : Prop := oncePlaysRow.holds Try.pinned (OpenSpec.ofChange oncePlaysSpec)

/-- ITS FALSE NEIGHBOUR: 'it returns false'. Refute it at one input. -/
def oncePlaysWrong : ChangeSpec := { name := "oncePlays", fn := fun _ => fun
  | [d] => { results := [.lit (.bool false)], args := [d] }
  | _ => none }
def OncePlaysWrongFalsely : Prop := oncePlaysRow.holds Try.pinned (OpenSpec.ofChange oncePlaysWrong)

/-- 'parcloselaw15.OnceNone': WHATEVER THE INPUT: true; the input reads as it did. -/
def onceNoneSpec : ChangeSpec := { name := "onceNone", fn := fun _ => fun
  | [d] => { results := [.lit (.bool true)], args := [d] }
  | _ => none }
def onceNoneRow : OpenClaim := { program := "ytacogkmnmeekfaa", sum := "608addb48a6b688695a3c8e72b544deb7b101f409311d7d1ee072ec31839054c", func := "parclose/parcloselaw15.OnceNone", spec := "onceNone", apart := false }
def OnceNoneSaid : Prop := onceNoneRow.holds Try.pinned (OpenSpec.ofChange onceNoneSpec)

/-- ITS FALSE NEIGHBOUR: 'it returns false'. Refute it at one input. -/
def onceNoneWrong : ChangeSpec := { name := "onceNone", fn := fun _ => fun
  | [d] => { results := [.lit (.bool false)], args := [d] }
  | _ => none }
def OnceNoneWrongFalsely : Prop := onceNoneRow.holds Try.pinned (OpenSpec.ofChange onceNoneWrong)

/-- 'parcloselaw16.GroupPlays': WHATEVER THE INPUT: true; the input reads as it did. -/
def groupPlaysSpec : ChangeSpec := { name := "groupPlays", fn := fun _ => fun
  | [d] => { results := [.lit (.bool true)], args := [d] }
  | _ => none }
def groupPlaysRow : OpenClaim := { program := "ytacogkmnmeekfaa", sum := "608addb48a6b688695a3c8e72b544deb7b101f409311d7d1ee072ec31839054c", func := "parclose/parcloselaw16.GroupPlays", spec := "groupPlays", apart := false }
def GroupPlaysSaid : Prop := groupPlaysRow.holds Try.pinned (OpenSpec.ofChange groupPlaysSpec)

/-- ITS FALSE NEIGHBOUR: 'it returns false'. Refute it at one input. -/
def groupPlaysWrong : ChangeSpec := { name := "groupPlays", fn := fun _ => fun
  | [d] => { results := [.lit (.bool false)], args := [d] }
  | _ => none }
def GroupPlaysWrongFalsely : Prop := groupPlaysRow.holds Try.pinned (OpenSpec.ofChange groupPlaysWrong)

/-- 'parcloselaw16.GroupNone': WHATEVER THE INPUT: true; the input reads as it did. -/
def groupNoneSpec : ChangeSpec := { name := "groupNone", fn := fun _ => fun
  | [d1, d2] => { results := [.lit (.bool true)], args := [d1, d2] }
  | _ => none }
def groupNoneRow : OpenClaim := { program := "ytacogkmnmeekfaa", sum := "608addb48a6b688695a3c8e72b544deb7b101f409311d7d1ee072ec31839054c", func := "parclose/parcloselaw16.GroupNone", spec := "groupNone", apart := false }
def GroupNoneSaid : Prop := groupNoneRow.holds Try.pinned (OpenSpec.ofChange groupNoneSpec)

/-- ITS FALSE NEIGHBOUR: 'it returns false'. Refute it at one input. -/
def groupNoneWrong : ChangeSpec := { name := "groupNone", fn := fun _ => fun
  | [d1, d2] => { results := [.lit (.bool false)], args := [d1, d2] }
  | _ => none }
def GroupNoneWrongFalsely : Prop := groupNoneRow.holds Try.pinned (OpenSpec.ofChange groupNoneWrong)

/- THE SECOND FORM. 'bulk': how many values and letters a reading holds, each counted each time it is reached (what is shared counts as often as it is met; a slice's spare places count too). A statement '..UptoSaid' is the law's where the arguments, and the package variables that the reading takes, are together of bulk at most 1048576: NARROWER than '..Said'. Prove '..Said' where nothing that the law and all that it calls make is longer than what came in: it says more and counts as full. Else prove '..UptoSaid'. A law counts once. -/
mutual
def uptoBulk {H : Type} : DataW H → Nat
  | .lit (.string bytes) => bytes.length + 1
  | .lit _ => 1
  | .nil => 1
  | .ptr d => uptoBulk d + 1
  | .slice elems spare => uptoBulkAll elems + uptoBulkAll spare + 1
  | .agg parts => uptoBulkAll parts + 1
  | .iface _ d => uptoBulk d + 1
  | .map entries => uptoBulkEntries entries + 1
  | .held _ => 1
def uptoBulkAll {H : Type} : List (DataW H) → Nat
  | [] => 0
  | d :: r => uptoBulk d + uptoBulkAll r
def uptoBulkEntries {H : Type} : List (Lit × DataW H) → Nat
  | [] => 0
  | x :: r => uptoBulkEntry x + uptoBulkEntries r
def uptoBulkEntry {H : Type} : Lit × DataW H → Nat
  | (.string bytes, d) => bytes.length + uptoBulk d + 1
  | (_, d) => uptoBulk d + 1
 end
def uptoSmall : (H : Type) → List (DataW H) → Bool := fun _ ds => decide (uptoBulkAll ds ≤ 1048576)
def OpenSpec.upto (s : _root_.Go.ChangeSpec) : _root_.Go.OpenSpec := { _root_.Go.OpenSpec.ofChange s with cond := some uptoSmall }

/-- 'parcloselaw15.OnceOne', WHERE WHAT IT READS IS OF BULK AT MOST 1048576: true; the input reads as it did. -/
def onceOneUptoRow : OpenClaim := { program := "ytacogkmnmeekfaa", sum := "608addb48a6b688695a3c8e72b544deb7b101f409311d7d1ee072ec31839054c", func := "parclose/parcloselaw15.OnceOne", spec := "onceOne", apart := false, narrowed := true }
def OnceOneUptoSaid : Prop := onceOneUptoRow.holds Try.pinned (OpenSpec.upto onceOneSpec)

/-- 'parcloselaw16.GroupWakes', WHERE WHAT IT READS IS OF BULK AT MOST 1048576: true; the input reads as it did. -/
def groupWakesUptoRow : OpenClaim := { program := "ytacogkmnmeekfaa", sum := "608addb48a6b688695a3c8e72b544deb7b101f409311d7d1ee072ec31839054c", func := "parclose/parcloselaw16.GroupWakes", spec := "groupWakes", apart := false, narrowed := true }
def GroupWakesUptoSaid : Prop := groupWakesUptoRow.holds Try.pinned (OpenSpec.upto groupWakesSpec)

/-- 'parcloselaw16.GroupEnds', WHERE WHAT IT READS IS OF BULK AT MOST 1048576: true; the input reads as it did. -/
def groupEndsUptoRow : OpenClaim := { program := "ytacogkmnmeekfaa", sum := "608addb48a6b688695a3c8e72b544deb7b101f409311d7d1ee072ec31839054c", func := "parclose/parcloselaw16.GroupEnds", spec := "groupEnds", apart := false, narrowed := true }
def GroupEndsUptoSaid : Prop := groupEndsUptoRow.holds Try.pinned (OpenSpec.upto groupEndsSpec)

/-- 'parcloselaw16.GroupSums', WHERE WHAT IT READS IS OF BULK AT MOST 1048576: true; the input reads as it did. -/
def groupSumsUptoRow : OpenClaim := { program := "ytacogkmnmeekfaa", sum := "608addb48a6b688695a3c8e72b544deb7b101f409311d7d1ee072ec31839054c", func := "parclose/parcloselaw16.GroupSums", spec := "groupSums", apart := false, narrowed := true }
def GroupSumsUptoSaid : Prop := groupSumsUptoRow.holds Try.pinned (OpenSpec.upto groupSumsSpec)

/-- 'parcloselaw15.OnceWakes', WHERE WHAT IT READS IS OF BULK AT MOST 1048576: true; the input reads as it did. -/
def onceWakesUptoRow : OpenClaim := { program := "ytacogkmnmeekfaa", sum := "608addb48a6b688695a3c8e72b544deb7b101f409311d7d1ee072ec31839054c", func := "parclose/parcloselaw15.OnceWakes", spec := "onceWakes", apart := false, narrowed := true }
def OnceWakesUptoSaid : Prop := onceWakesUptoRow.holds Try.pinned (OpenSpec.upto onceWakesSpec)

/-- 'parcloselaw15.OncePlays', WHERE WHAT IT READS IS OF BULK AT MOST 1048576: true; the input reads as it did. -/
def oncePlaysUptoRow : OpenClaim := { program := "ytacogkmnmeekfaa", sum := "608addb48a6b688695a3c8e72b544deb7b101f409311d7d1ee072ec31839054c", func := "parclose/parcloselaw15.OncePlays", spec := "oncePlays", apart := false, narrowed := true }
def OncePlaysUptoSaid : Prop := oncePlaysUptoRow.holds Try.pinned (OpenSpec.upto oncePlaysSpec)

/-- 'parcloselaw15.OnceNone', WHERE WHAT IT READS IS OF BULK AT MOST 1048576: true; the input reads as it did. -/
def onceNoneUptoRow : OpenClaim := { program := "ytacogkmnmeekfaa", sum := "608addb48a6b688695a3c8e72b544deb7b101f409311d7d1ee072ec31839054c", func := "parclose/parcloselaw15.OnceNone", spec := "onceNone", apart := false, narrowed := true }
def OnceNoneUptoSaid : Prop := onceNoneUptoRow.holds Try.pinned (OpenSpec.upto onceNoneSpec)

/-- 'parcloselaw16.GroupPlays', WHERE WHAT IT READS IS OF BULK AT MOST 1048576: true; the input reads as it did. -/
def groupPlaysUptoRow : OpenClaim := { program := "ytacogkmnmeekfaa", sum := "608addb48a6b688695a3c8e72b544deb7b101f409311d7d1ee072ec31839054c", func := "parclose/parcloselaw16.GroupPlays", spec := "groupPlays", apart := false, narrowed := true }
def GroupPlaysUptoSaid : Prop := groupPlaysUptoRow.holds Try.pinned (OpenSpec.upto groupPlaysSpec)

/-- 'parcloselaw16.GroupNone', WHERE WHAT IT READS IS OF BULK AT MOST 1048576: true; the input reads as it did. -/
def groupNoneUptoRow : OpenClaim := { program := "ytacogkmnmeekfaa", sum := "608addb48a6b688695a3c8e72b544deb7b101f409311d7d1ee072ec31839054c", func := "parclose/parcloselaw16.GroupNone", spec := "groupNone", apart := false, narrowed := true }
def GroupNoneUptoSaid : Prop := groupNoneUptoRow.holds Try.pinned (OpenSpec.upto groupNoneSpec)

end Rows
end Go.Proofs.Ytacogkmnmeekfaa
