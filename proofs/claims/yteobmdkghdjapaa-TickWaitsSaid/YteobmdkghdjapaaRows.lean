/-
  No cell of these rows narrows 'for every input' (looked for: loops, veiled, ifaces, maps, wideKeys, modest, calm, conditions, laid).
  DERIVED. THE GIVEN ROWS OF THIS SEAT. 9 by the template 'for every input the law returns true; each argument reads behind the call as it read before'; 0 by the template 'total and deterministic' (their statements: YteobmdkghdjapaaTotals.lean).
  GIVEN WITH THE SEED: the statements are not yours to turn. If you find one false, say at which input.
  Laid BY PROGRAM, IN A SANDBOX (cutbox-rows.mjs): the forced cells as the released guide's own fill.sh prints them over the translation 40c822f81d04df7c… (all of the seat's roots in one cut). By AI agents, Wed Nov 11 2026. No macro, syntax, notation, axiom, sorry.
-/
import Derived.Test.YteobmdkghdjapaaChecked
import GoSem.Claim
import GoSem.ClaimJoined
import GoSem.ClaimMapViews
import Derived.JoinedTies
import Derived.KernelRfl
namespace Go.Proofs.Yteobmdkghdjapaa
/- THE CELL 'sum', in the pinned program and in every row, IS THE sha256 OF THE DUMP (.gsa) THAT YteobmdkghdjapaaProg.lean LOADS. Nothing in Lean hashes anything: it is a label: what it is worth is what the hold of that sum in a sandbox is worth. -/
noncomputable def Try.pinned : Pinned := { name := "yteobmdkghdjapaa", sum := "40c822f81d04df7c3c26a0dade11c59e1b379df36f1a8411c753c612a148c6e6", checked := Try.checked }
namespace Rows
def none {H : Type} : Left H := { results := [], args := [] }

/-- 'parcloselaw10.BufferPlays': WHATEVER THE INPUT: true; the input reads as it did. -/
def bufferPlaysSpec : ChangeSpec := { name := "bufferPlays", fn := fun _ => fun
  | [d1, d2, d3] => { results := [.lit (.bool true)], args := [d1, d2, d3] }
  | _ => none }
def bufferPlaysRow : OpenClaim := { program := "yteobmdkghdjapaa", sum := "40c822f81d04df7c3c26a0dade11c59e1b379df36f1a8411c753c612a148c6e6", func := "parclose/parcloselaw10.BufferPlays", spec := "bufferPlays", unfollowed := true, recurses := true, apart := false }
def BufferPlaysSaid : Prop := bufferPlaysRow.holds Try.pinned (OpenSpec.ofChange bufferPlaysSpec)

/-- ITS FALSE NEIGHBOUR: 'it returns false'. Refute it at one input. -/
def bufferPlaysWrong : ChangeSpec := { name := "bufferPlays", fn := fun _ => fun
  | [d1, d2, d3] => { results := [.lit (.bool false)], args := [d1, d2, d3] }
  | _ => none }
def BufferPlaysWrongFalsely : Prop := bufferPlaysRow.holds Try.pinned (OpenSpec.ofChange bufferPlaysWrong)

/-- 'parcloselaw10.BufferSame': WHATEVER THE INPUT: true; the input reads as it did. -/
def bufferSameSpec : ChangeSpec := { name := "bufferSame", fn := fun _ => fun
  | [d1, d2, d3] => { results := [.lit (.bool true)], args := [d1, d2, d3] }
  | _ => none }
def bufferSameRow : OpenClaim := { program := "yteobmdkghdjapaa", sum := "40c822f81d04df7c3c26a0dade11c59e1b379df36f1a8411c753c612a148c6e6", func := "parclose/parcloselaw10.BufferSame", spec := "bufferSame", unfollowed := true, recurses := true, apart := false }
def BufferSameSaid : Prop := bufferSameRow.holds Try.pinned (OpenSpec.ofChange bufferSameSpec)

/-- ITS FALSE NEIGHBOUR: 'it returns false'. Refute it at one input. -/
def bufferSameWrong : ChangeSpec := { name := "bufferSame", fn := fun _ => fun
  | [d1, d2, d3] => { results := [.lit (.bool false)], args := [d1, d2, d3] }
  | _ => none }
def BufferSameWrongFalsely : Prop := bufferSameRow.holds Try.pinned (OpenSpec.ofChange bufferSameWrong)

/-- 'parcloselaw10.BufferOnce': WHATEVER THE INPUT: true; the input reads as it did. -/
def bufferOnceSpec : ChangeSpec := { name := "bufferOnce", fn := fun _ => fun
  | [d] => { results := [.lit (.bool true)], args := [d] }
  | _ => none }
def bufferOnceRow : OpenClaim := { program := "yteobmdkghdjapaa", sum := "40c822f81d04df7c3c26a0dade11c59e1b379df36f1a8411c753c612a148c6e6", func := "parclose/parcloselaw10.BufferOnce", spec := "bufferOnce", unfollowed := true, recurses := true, apart := false }
def BufferOnceSaid : Prop := bufferOnceRow.holds Try.pinned (OpenSpec.ofChange bufferOnceSpec)

/-- ITS FALSE NEIGHBOUR: 'it returns false'. Refute it at one input. -/
def bufferOnceWrong : ChangeSpec := { name := "bufferOnce", fn := fun _ => fun
  | [d] => { results := [.lit (.bool false)], args := [d] }
  | _ => none }
def BufferOnceWrongFalsely : Prop := bufferOnceRow.holds Try.pinned (OpenSpec.ofChange bufferOnceWrong)

/-- 'parcloselaw10.BufferNone': WHATEVER THE INPUT: true; the input reads as it did. -/
def bufferNoneSpec : ChangeSpec := { name := "bufferNone", fn := fun _ => fun
  | [d1, d2] => { results := [.lit (.bool true)], args := [d1, d2] }
  | _ => none }
def bufferNoneRow : OpenClaim := { program := "yteobmdkghdjapaa", sum := "40c822f81d04df7c3c26a0dade11c59e1b379df36f1a8411c753c612a148c6e6", func := "parclose/parcloselaw10.BufferNone", spec := "bufferNone", unfollowed := true, recurses := true, apart := false }
def BufferNoneSaid : Prop := bufferNoneRow.holds Try.pinned (OpenSpec.ofChange bufferNoneSpec)

/-- ITS FALSE NEIGHBOUR: 'it returns false'. Refute it at one input. -/
def bufferNoneWrong : ChangeSpec := { name := "bufferNone", fn := fun _ => fun
  | [d1, d2] => { results := [.lit (.bool false)], args := [d1, d2] }
  | _ => none }
def BufferNoneWrongFalsely : Prop := bufferNoneRow.holds Try.pinned (OpenSpec.ofChange bufferNoneWrong)

/-- 'parcloselaw05.TickAt': WHATEVER THE INPUT: true; the input reads as it did. -/
def tickAtSpec : ChangeSpec := { name := "tickAt", fn := fun _ => fun
  | [d1, d2] => { results := [.lit (.bool true)], args := [d1, d2] }
  | _ => none }
def tickAtRow : OpenClaim := { program := "yteobmdkghdjapaa", sum := "40c822f81d04df7c3c26a0dade11c59e1b379df36f1a8411c753c612a148c6e6", func := "parclose/parcloselaw05.TickAt", spec := "tickAt", unfollowed := true, recurses := true, apart := false }
def TickAtSaid : Prop := tickAtRow.holds Try.pinned (OpenSpec.ofChange tickAtSpec)

/-- ITS FALSE NEIGHBOUR: 'it returns false'. Refute it at one input. -/
def tickAtWrong : ChangeSpec := { name := "tickAt", fn := fun _ => fun
  | [d1, d2] => { results := [.lit (.bool false)], args := [d1, d2] }
  | _ => none }
def TickAtWrongFalsely : Prop := tickAtRow.holds Try.pinned (OpenSpec.ofChange tickAtWrong)

/-- 'parcloselaw05.TickNext': WHATEVER THE INPUT: true; the input reads as it did. -/
def tickNextSpec : ChangeSpec := { name := "tickNext", fn := fun _ => fun
  | [d1, d2, d3] => { results := [.lit (.bool true)], args := [d1, d2, d3] }
  | _ => none }
def tickNextRow : OpenClaim := { program := "yteobmdkghdjapaa", sum := "40c822f81d04df7c3c26a0dade11c59e1b379df36f1a8411c753c612a148c6e6", func := "parclose/parcloselaw05.TickNext", spec := "tickNext", unfollowed := true, recurses := true, apart := false }
def TickNextSaid : Prop := tickNextRow.holds Try.pinned (OpenSpec.ofChange tickNextSpec)

/-- ITS FALSE NEIGHBOUR: 'it returns false'. Refute it at one input. -/
def tickNextWrong : ChangeSpec := { name := "tickNext", fn := fun _ => fun
  | [d1, d2, d3] => { results := [.lit (.bool false)], args := [d1, d2, d3] }
  | _ => none }
def TickNextWrongFalsely : Prop := tickNextRow.holds Try.pinned (OpenSpec.ofChange tickNextWrong)

/-- 'parcloselaw05.TickAdds': WHATEVER THE INPUT: true; the input reads as it did. -/
def tickAddsSpec : ChangeSpec := { name := "tickAdds", fn := fun _ => fun
  | [d1, d2, d3] => { results := [.lit (.bool true)], args := [d1, d2, d3] }
  | _ => none }
def tickAddsRow : OpenClaim := { program := "yteobmdkghdjapaa", sum := "40c822f81d04df7c3c26a0dade11c59e1b379df36f1a8411c753c612a148c6e6", func := "parclose/parcloselaw05.TickAdds", spec := "tickAdds", unfollowed := true, recurses := true, apart := false }
def TickAddsSaid : Prop := tickAddsRow.holds Try.pinned (OpenSpec.ofChange tickAddsSpec)

/-- ITS FALSE NEIGHBOUR: 'it returns false'. Refute it at one input. -/
def tickAddsWrong : ChangeSpec := { name := "tickAdds", fn := fun _ => fun
  | [d1, d2, d3] => { results := [.lit (.bool false)], args := [d1, d2, d3] }
  | _ => none }
def TickAddsWrongFalsely : Prop := tickAddsRow.holds Try.pinned (OpenSpec.ofChange tickAddsWrong)

/-- 'parcloselaw05.TickRound': WHATEVER THE INPUT: true; the input reads as it did. -/
def tickRoundSpec : ChangeSpec := { name := "tickRound", fn := fun _ => fun
  | [d1, d2] => { results := [.lit (.bool true)], args := [d1, d2] }
  | _ => none }
def tickRoundRow : OpenClaim := { program := "yteobmdkghdjapaa", sum := "40c822f81d04df7c3c26a0dade11c59e1b379df36f1a8411c753c612a148c6e6", func := "parclose/parcloselaw05.TickRound", spec := "tickRound", unfollowed := true, recurses := true, apart := false }
def TickRoundSaid : Prop := tickRoundRow.holds Try.pinned (OpenSpec.ofChange tickRoundSpec)

/-- ITS FALSE NEIGHBOUR: 'it returns false'. Refute it at one input. -/
def tickRoundWrong : ChangeSpec := { name := "tickRound", fn := fun _ => fun
  | [d1, d2] => { results := [.lit (.bool false)], args := [d1, d2] }
  | _ => none }
def TickRoundWrongFalsely : Prop := tickRoundRow.holds Try.pinned (OpenSpec.ofChange tickRoundWrong)

/-- 'parcloselaw05.TickWaits': WHATEVER THE INPUT: true; the input reads as it did. -/
def tickWaitsSpec : ChangeSpec := { name := "tickWaits", fn := fun _ => fun
  | [d1, d2, d3] => { results := [.lit (.bool true)], args := [d1, d2, d3] }
  | _ => none }
def tickWaitsRow : OpenClaim := { program := "yteobmdkghdjapaa", sum := "40c822f81d04df7c3c26a0dade11c59e1b379df36f1a8411c753c612a148c6e6", func := "parclose/parcloselaw05.TickWaits", spec := "tickWaits", unfollowed := true, recurses := true, apart := false }
def TickWaitsSaid : Prop := tickWaitsRow.holds Try.pinned (OpenSpec.ofChange tickWaitsSpec)

/-- ITS FALSE NEIGHBOUR: 'it returns false'. Refute it at one input. -/
def tickWaitsWrong : ChangeSpec := { name := "tickWaits", fn := fun _ => fun
  | [d1, d2, d3] => { results := [.lit (.bool false)], args := [d1, d2, d3] }
  | _ => none }
def TickWaitsWrongFalsely : Prop := tickWaitsRow.holds Try.pinned (OpenSpec.ofChange tickWaitsWrong)

/- THE SECOND FORM. 'bulk': how many values and letters a reading holds, each counted each time it is reached (what is shared counts as often as it is met; a slice's spare places count too). A statement '..UptoSaid' is the law's where the arguments, and the package variables that the reading takes, are together of bulk at most 1048576: NARROWER than '..Said'. Prove '..Said' where nothing that the law and all that it calls make is longer than what came in: it says more and counts as full. Else prove '..UptoSaid'. A law counts once. -/
mutual
def uptoBulk {H : Type} : DataW H → Nat
  | .lit (.string bytes) => bytes.length + 1
  | .lit _ => 1
  | .nil => 1
  | .ptr d => uptoBulk d + 1
  | .slice elems spare => uptoBulkAll elems + uptoBulkAll spare + 1
  | .agg parts => uptoBulkAll parts + 1
  | .iface _ d => uptoBulk d + 1
  | .map entries => uptoBulkEntries entries + 1
  | .held _ => 1
def uptoBulkAll {H : Type} : List (DataW H) → Nat
  | [] => 0
  | d :: r => uptoBulk d + uptoBulkAll r
def uptoBulkEntries {H : Type} : List (Lit × DataW H) → Nat
  | [] => 0
  | x :: r => uptoBulkEntry x + uptoBulkEntries r
def uptoBulkEntry {H : Type} : Lit × DataW H → Nat
  | (.string bytes, d) => bytes.length + uptoBulk d + 1
  | (_, d) => uptoBulk d + 1
 end
def uptoSmall : (H : Type) → List (DataW H) → Bool := fun _ ds => decide (uptoBulkAll ds ≤ 1048576)
def OpenSpec.upto (s : _root_.Go.ChangeSpec) : _root_.Go.OpenSpec := { _root_.Go.OpenSpec.ofChange s with cond := some uptoSmall }

/-- 'parcloselaw10.BufferPlays', WHERE WHAT IT READS IS OF BULK AT MOST 1048576: true; the input reads as it did. -/
def bufferPlaysUptoRow : OpenClaim := { program := "yteobmdkghdjapaa", sum := "40c822f81d04df7c3c26a0dade11c59e1b379df36f1a8411c753c612a148c6e6", func := "parclose/parcloselaw10.BufferPlays", spec := "bufferPlays", unfollowed := true, recurses := true, apart := false, narrowed := true }
def BufferPlaysUptoSaid : Prop := bufferPlaysUptoRow.holds Try.pinned (OpenSpec.upto bufferPlaysSpec)

/-- 'parcloselaw10.BufferSame', WHERE WHAT IT READS IS OF BULK AT MOST 1048576: true; the input reads as it did. -/
def bufferSameUptoRow : OpenClaim := { program := "yteobmdkghdjapaa", sum := "40c822f81d04df7c3c26a0dade11c59e1b379df36f1a8411c753c612a148c6e6", func := "parclose/parcloselaw10.BufferSame", spec := "bufferSame", unfollowed := true, recurses := true, apart := false, narrowed := true }
def BufferSameUptoSaid : Prop := bufferSameUptoRow.holds Try.pinned (OpenSpec.upto bufferSameSpec)

/-- 'parcloselaw10.BufferOnce', WHERE WHAT IT READS IS OF BULK AT MOST 1048576: true; the input reads as it did. -/
def bufferOnceUptoRow : OpenClaim := { program := "yteobmdkghdjapaa", sum := "40c822f81d04df7c3c26a0dade11c59e1b379df36f1a8411c753c612a148c6e6", func := "parclose/parcloselaw10.BufferOnce", spec := "bufferOnce", unfollowed := true, recurses := true, apart := false, narrowed := true }
def BufferOnceUptoSaid : Prop := bufferOnceUptoRow.holds Try.pinned (OpenSpec.upto bufferOnceSpec)

/-- 'parcloselaw10.BufferNone', WHERE WHAT IT READS IS OF BULK AT MOST 1048576: true; the input reads as it did. -/
def bufferNoneUptoRow : OpenClaim := { program := "yteobmdkghdjapaa", sum := "40c822f81d04df7c3c26a0dade11c59e1b379df36f1a8411c753c612a148c6e6", func := "parclose/parcloselaw10.BufferNone", spec := "bufferNone", unfollowed := true, recurses := true, apart := false, narrowed := true }
def BufferNoneUptoSaid : Prop := bufferNoneUptoRow.holds Try.pinned (OpenSpec.upto bufferNoneSpec)

/-- 'parcloselaw05.TickAt', WHERE WHAT IT READS IS OF BULK AT MOST 1048576: true; the input reads as it did. -/
def tickAtUptoRow : OpenClaim := { program := "yteobmdkghdjapaa", sum := "40c822f81d04df7c3c26a0dade11c59e1b379df36f1a8411c753c612a148c6e6", func := "parclose/parcloselaw05.TickAt", spec := "tickAt", unfollowed := true, recurses := true, apart := false, narrowed := true }
def TickAtUptoSaid : Prop := tickAtUptoRow.holds Try.pinned (OpenSpec.upto tickAtSpec)

/-- 'parcloselaw05.TickNext', WHERE WHAT IT READS IS OF BULK AT MOST 1048576: true; the input reads as it did. -/
def tickNextUptoRow : OpenClaim := { program := "yteobmdkghdjapaa", sum := "40c822f81d04df7c3c26a0dade11c59e1b379df36f1a8411c753c612a148c6e6", func := "parclose/parcloselaw05.TickNext", spec := "tickNext", unfollowed := true, recurses := true, apart := false, narrowed := true }
def TickNextUptoSaid : Prop := tickNextUptoRow.holds Try.pinned (OpenSpec.upto tickNextSpec)

/-- 'parcloselaw05.TickAdds', WHERE WHAT IT READS IS OF BULK AT MOST 1048576: true; the input reads as it did. -/
def tickAddsUptoRow : OpenClaim := { program := "yteobmdkghdjapaa", sum := "40c822f81d04df7c3c26a0dade11c59e1b379df36f1a8411c753c612a148c6e6", func := "parclose/parcloselaw05.TickAdds", spec := "tickAdds", unfollowed := true, recurses := true, apart := false, narrowed := true }
def TickAddsUptoSaid : Prop := tickAddsUptoRow.holds Try.pinned (OpenSpec.upto tickAddsSpec)

/-- 'parcloselaw05.TickRound', WHERE WHAT IT READS IS OF BULK AT MOST 1048576: true; the input reads as it did. -/
def tickRoundUptoRow : OpenClaim := { program := "yteobmdkghdjapaa", sum := "40c822f81d04df7c3c26a0dade11c59e1b379df36f1a8411c753c612a148c6e6", func := "parclose/parcloselaw05.TickRound", spec := "tickRound", unfollowed := true, recurses := true, apart := false, narrowed := true }
def TickRoundUptoSaid : Prop := tickRoundUptoRow.holds Try.pinned (OpenSpec.upto tickRoundSpec)

/-- 'parcloselaw05.TickWaits', WHERE WHAT IT READS IS OF BULK AT MOST 1048576: true; the input reads as it did. -/
def tickWaitsUptoRow : OpenClaim := { program := "yteobmdkghdjapaa", sum := "40c822f81d04df7c3c26a0dade11c59e1b379df36f1a8411c753c612a148c6e6", func := "parclose/parcloselaw05.TickWaits", spec := "tickWaits", unfollowed := true, recurses := true, apart := false, narrowed := true }
def TickWaitsUptoSaid : Prop := tickWaitsUptoRow.holds Try.pinned (OpenSpec.upto tickWaitsSpec)

end Rows
end Go.Proofs.Yteobmdkghdjapaa
