/-
  No cell of these rows narrows 'for every input' (looked for: loops, veiled, ifaces, maps, wideKeys, modest, calm, conditions, laid).
  DERIVED. THE GIVEN ROWS OF THIS SEAT. 10 by the template 'for every input the law returns true; each argument reads behind the call as it read before'; 0 by the template 'total and deterministic' (their statements: YtegpoocmhamlpaaTotals.lean).
  GIVEN WITH THE SEED: the statements are not yours to turn. If you find one false, say at which input.
  Laid BY PROGRAM, IN A SANDBOX (cutbox-rows.mjs): the forced cells as the released guide's own fill.sh prints them over the translation d7e17af46fbbb53f… (all of the seat's roots in one cut). By AI agents, Wed Nov 11 2026. No macro, syntax, notation, axiom, sorry.
-/
import Derived.Test.YtegpoocmhamlpaaChecked
import GoSem.Claim
import GoSem.ClaimJoined
import GoSem.ClaimMapViews
import Derived.JoinedTies
import Derived.KernelRfl
namespace Go.Proofs.Ytegpoocmhamlpaa
/- THE CELL 'sum', in the pinned program and in every row, IS THE sha256 OF THE DUMP (.gsa) THAT YtegpoocmhamlpaaProg.lean LOADS. Nothing in Lean hashes anything: it is a label: what it is worth is what the hold of that sum in a sandbox is worth. -/
noncomputable def Try.pinned : Pinned := { name := "ytegpoocmhamlpaa", sum := "d7e17af46fbbb53fa505ef616b923d0dc0b726bd08aea7b92c120b214b1829bd", checked := Try.checked }
namespace Rows
def none {H : Type} : Left H := { results := [], args := [] }

/-- 'parcloselaw13.SemaOrder': WHATEVER THE INPUT: true; the input reads as it did. -/
def semaOrderSpec : ChangeSpec := { name := "semaOrder", fn := fun _ => fun
  | [d1, d2] => { results := [.lit (.bool true)], args := [d1, d2] }
  | _ => none }
def semaOrderRow : OpenClaim := { program := "ytegpoocmhamlpaa", sum := "d7e17af46fbbb53fa505ef616b923d0dc0b726bd08aea7b92c120b214b1829bd", func := "parclose/parcloselaw13.SemaOrder", spec := "semaOrder", unfollowed := true, recurses := true, apart := false }
def SemaOrderSaid : Prop := semaOrderRow.holds Try.pinned (OpenSpec.ofChange semaOrderSpec)

/-- ITS FALSE NEIGHBOUR: 'it returns false'. Refute it at one input. -/
def semaOrderWrong : ChangeSpec := { name := "semaOrder", fn := fun _ => fun
  | [d1, d2] => { results := [.lit (.bool false)], args := [d1, d2] }
  | _ => none }
def SemaOrderWrongFalsely : Prop := semaOrderRow.holds Try.pinned (OpenSpec.ofChange semaOrderWrong)

/-- 'parcloselaw13.SemaKeeps': WHATEVER THE INPUT: true; the input reads as it did. -/
def semaKeepsSpec : ChangeSpec := { name := "semaKeeps", fn := fun _ => fun
  | [d1, d2] => { results := [.lit (.bool true)], args := [d1, d2] }
  | _ => none }
def semaKeepsRow : OpenClaim := { program := "ytegpoocmhamlpaa", sum := "d7e17af46fbbb53fa505ef616b923d0dc0b726bd08aea7b92c120b214b1829bd", func := "parclose/parcloselaw13.SemaKeeps", spec := "semaKeeps", unfollowed := true, recurses := true, apart := false }
def SemaKeepsSaid : Prop := semaKeepsRow.holds Try.pinned (OpenSpec.ofChange semaKeepsSpec)

/-- ITS FALSE NEIGHBOUR: 'it returns false'. Refute it at one input. -/
def semaKeepsWrong : ChangeSpec := { name := "semaKeeps", fn := fun _ => fun
  | [d1, d2] => { results := [.lit (.bool false)], args := [d1, d2] }
  | _ => none }
def SemaKeepsWrongFalsely : Prop := semaKeepsRow.holds Try.pinned (OpenSpec.ofChange semaKeepsWrong)

/-- 'parcloselaw13.SemaTries': WHATEVER THE INPUT: true; the input reads as it did. -/
def semaTriesSpec : ChangeSpec := { name := "semaTries", fn := fun _ => fun
  | [d1, d2, d3, d4] => { results := [.lit (.bool true)], args := [d1, d2, d3, d4] }
  | _ => none }
def semaTriesRow : OpenClaim := { program := "ytegpoocmhamlpaa", sum := "d7e17af46fbbb53fa505ef616b923d0dc0b726bd08aea7b92c120b214b1829bd", func := "parclose/parcloselaw13.SemaTries", spec := "semaTries", unfollowed := true, recurses := true, apart := false }
def SemaTriesSaid : Prop := semaTriesRow.holds Try.pinned (OpenSpec.ofChange semaTriesSpec)

/-- ITS FALSE NEIGHBOUR: 'it returns false'. Refute it at one input. -/
def semaTriesWrong : ChangeSpec := { name := "semaTries", fn := fun _ => fun
  | [d1, d2, d3, d4] => { results := [.lit (.bool false)], args := [d1, d2, d3, d4] }
  | _ => none }
def SemaTriesWrongFalsely : Prop := semaTriesRow.holds Try.pinned (OpenSpec.ofChange semaTriesWrong)

/-- 'parcloselaw13.SemaPlays': WHATEVER THE INPUT: true; the input reads as it did. -/
def semaPlaysSpec : ChangeSpec := { name := "semaPlays", fn := fun _ => fun
  | [d1, d2] => { results := [.lit (.bool true)], args := [d1, d2] }
  | _ => none }
def semaPlaysRow : OpenClaim := { program := "ytegpoocmhamlpaa", sum := "d7e17af46fbbb53fa505ef616b923d0dc0b726bd08aea7b92c120b214b1829bd", func := "parclose/parcloselaw13.SemaPlays", spec := "semaPlays", unfollowed := true, recurses := true, apart := false }
def SemaPlaysSaid : Prop := semaPlaysRow.holds Try.pinned (OpenSpec.ofChange semaPlaysSpec)

/-- ITS FALSE NEIGHBOUR: 'it returns false'. Refute it at one input. -/
def semaPlaysWrong : ChangeSpec := { name := "semaPlays", fn := fun _ => fun
  | [d1, d2] => { results := [.lit (.bool false)], args := [d1, d2] }
  | _ => none }
def SemaPlaysWrongFalsely : Prop := semaPlaysRow.holds Try.pinned (OpenSpec.ofChange semaPlaysWrong)

/-- 'parcloselaw13.SemaNone': WHATEVER THE INPUT: true; the input reads as it did. -/
def semaNoneSpec : ChangeSpec := { name := "semaNone", fn := fun _ => fun
  | [d1, d2] => { results := [.lit (.bool true)], args := [d1, d2] }
  | _ => none }
def semaNoneRow : OpenClaim := { program := "ytegpoocmhamlpaa", sum := "d7e17af46fbbb53fa505ef616b923d0dc0b726bd08aea7b92c120b214b1829bd", func := "parclose/parcloselaw13.SemaNone", spec := "semaNone", unfollowed := true, recurses := true, apart := false }
def SemaNoneSaid : Prop := semaNoneRow.holds Try.pinned (OpenSpec.ofChange semaNoneSpec)

/-- ITS FALSE NEIGHBOUR: 'it returns false'. Refute it at one input. -/
def semaNoneWrong : ChangeSpec := { name := "semaNone", fn := fun _ => fun
  | [d1, d2] => { results := [.lit (.bool false)], args := [d1, d2] }
  | _ => none }
def SemaNoneWrongFalsely : Prop := semaNoneRow.holds Try.pinned (OpenSpec.ofChange semaNoneWrong)

/-- 'parcloselaw12.RwFirst': WHATEVER THE INPUT: true; the input reads as it did. -/
def rwFirstSpec : ChangeSpec := { name := "rwFirst", fn := fun _ => fun
  | [d1, d2, d3] => { results := [.lit (.bool true)], args := [d1, d2, d3] }
  | _ => none }
def rwFirstRow : OpenClaim := { program := "ytegpoocmhamlpaa", sum := "d7e17af46fbbb53fa505ef616b923d0dc0b726bd08aea7b92c120b214b1829bd", func := "parclose/parcloselaw12.RwFirst", spec := "rwFirst", apart := false }
def RwFirstSaid : Prop := rwFirstRow.holds Try.pinned (OpenSpec.ofChange rwFirstSpec)

/-- ITS FALSE NEIGHBOUR: 'it returns false'. Refute it at one input. -/
def rwFirstWrong : ChangeSpec := { name := "rwFirst", fn := fun _ => fun
  | [d1, d2, d3] => { results := [.lit (.bool false)], args := [d1, d2, d3] }
  | _ => none }
def RwFirstWrongFalsely : Prop := rwFirstRow.holds Try.pinned (OpenSpec.ofChange rwFirstWrong)

/-- 'parcloselaw12.RwDrops': WHATEVER THE INPUT: true; the input reads as it did. -/
def rwDropsSpec : ChangeSpec := { name := "rwDrops", fn := fun _ => fun
  | [d] => { results := [.lit (.bool true)], args := [d] }
  | _ => none }
def rwDropsRow : OpenClaim := { program := "ytegpoocmhamlpaa", sum := "d7e17af46fbbb53fa505ef616b923d0dc0b726bd08aea7b92c120b214b1829bd", func := "parclose/parcloselaw12.RwDrops", spec := "rwDrops", apart := false }
def RwDropsSaid : Prop := rwDropsRow.holds Try.pinned (OpenSpec.ofChange rwDropsSpec)

/-- ITS FALSE NEIGHBOUR: 'it returns false'. Refute it at one input. -/
def rwDropsWrong : ChangeSpec := { name := "rwDrops", fn := fun _ => fun
  | [d] => { results := [.lit (.bool false)], args := [d] }
  | _ => none }
def RwDropsWrongFalsely : Prop := rwDropsRow.holds Try.pinned (OpenSpec.ofChange rwDropsWrong)

/-- 'parcloselaw12.RwPlays': WHATEVER THE INPUT: true; the input reads as it did. -/
def rwPlaysSpec : ChangeSpec := { name := "rwPlays", fn := fun _ => fun
  | [d] => { results := [.lit (.bool true)], args := [d] }
  | _ => none }
def rwPlaysRow : OpenClaim := { program := "ytegpoocmhamlpaa", sum := "d7e17af46fbbb53fa505ef616b923d0dc0b726bd08aea7b92c120b214b1829bd", func := "parclose/parcloselaw12.RwPlays", spec := "rwPlays", apart := false }
def RwPlaysSaid : Prop := rwPlaysRow.holds Try.pinned (OpenSpec.ofChange rwPlaysSpec)

/-- ITS FALSE NEIGHBOUR: 'it returns false'. Refute it at one input. -/
def rwPlaysWrong : ChangeSpec := { name := "rwPlays", fn := fun _ => fun
  | [d] => { results := [.lit (.bool false)], args := [d] }
  | _ => none }
def RwPlaysWrongFalsely : Prop := rwPlaysRow.holds Try.pinned (OpenSpec.ofChange rwPlaysWrong)

/-- 'parcloselaw12.RwAlone': WHATEVER THE INPUT: true; the input reads as it did. -/
def rwAloneSpec : ChangeSpec := { name := "rwAlone", fn := fun _ => fun
  | [d] => { results := [.lit (.bool true)], args := [d] }
  | _ => none }
def rwAloneRow : OpenClaim := { program := "ytegpoocmhamlpaa", sum := "d7e17af46fbbb53fa505ef616b923d0dc0b726bd08aea7b92c120b214b1829bd", func := "parclose/parcloselaw12.RwAlone", spec := "rwAlone", apart := false }
def RwAloneSaid : Prop := rwAloneRow.holds Try.pinned (OpenSpec.ofChange rwAloneSpec)

/-- ITS FALSE NEIGHBOUR: 'it returns false'. Refute it at one input. -/
def rwAloneWrong : ChangeSpec := { name := "rwAlone", fn := fun _ => fun
  | [d] => { results := [.lit (.bool false)], args := [d] }
  | _ => none }
def RwAloneWrongFalsely : Prop := rwAloneRow.holds Try.pinned (OpenSpec.ofChange rwAloneWrong)

/-- 'parcloselaw12.RwNone': WHATEVER THE INPUT: true; the input reads as it did. -/
def rwNoneSpec : ChangeSpec := { name := "rwNone", fn := fun _ => fun
  | [d] => { results := [.lit (.bool true)], args := [d] }
  | _ => none }
def rwNoneRow : OpenClaim := { program := "ytegpoocmhamlpaa", sum := "d7e17af46fbbb53fa505ef616b923d0dc0b726bd08aea7b92c120b214b1829bd", func := "parclose/parcloselaw12.RwNone", spec := "rwNone", apart := false }
def RwNoneSaid : Prop := rwNoneRow.holds Try.pinned (OpenSpec.ofChange rwNoneSpec)

/-- ITS FALSE NEIGHBOUR: 'it returns false'. Refute it at one input. -/
def rwNoneWrong : ChangeSpec := { name := "rwNone", fn := fun _ => fun
  | [d] => { results := [.lit (.bool false)], args := [d] }
  | _ => none }
def RwNoneWrongFalsely : Prop := rwNoneRow.holds Try.pinned (OpenSpec.ofChange rwNoneWrong)

/- THE SECOND FORM. 'bulk': how many values and letters a reading holds, each counted each time it is reached (what is shared counts as often as it is met; a slice's spare places count too). A statement '..UptoSaid' is the law's where the arguments, and the package variables that the reading takes, are together of bulk at most 1048576: NARROWER than '..Said'. Prove '..Said' where nothing that the law and all that it calls make is longer than what came in: it says more and counts as full. Else prove '..UptoSaid'. A law counts once. -/
mutual
def uptoBulk {H : Type} : DataW H → Nat
  | .lit (.string bytes) => bytes.length + 1
  | .lit _ => 1
  | .nil => 1
  | .ptr d => uptoBulk d + 1
  | .slice elems spare => uptoBulkAll elems + uptoBulkAll spare + 1
  | .agg parts => uptoBulkAll parts + 1
  | .iface _ d => uptoBulk d + 1
  | .map entries => uptoBulkEntries entries + 1
  | .held _ => 1
def uptoBulkAll {H : Type} : List (DataW H) → Nat
  | [] => 0
  | d :: r => uptoBulk d + uptoBulkAll r
def uptoBulkEntries {H : Type} : List (Lit × DataW H) → Nat
  | [] => 0
  | x :: r => uptoBulkEntry x + uptoBulkEntries r
def uptoBulkEntry {H : Type} : Lit × DataW H → Nat
  | (.string bytes, d) => bytes.length + uptoBulk d + 1
  | (_, d) => uptoBulk d + 1
 end
def uptoSmall : (H : Type) → List (DataW H) → Bool := fun _ ds => decide (uptoBulkAll ds ≤ 1048576)
def OpenSpec.upto (s : _root_.Go.ChangeSpec) : _root_.Go.OpenSpec := { _root_.Go.OpenSpec.ofChange s with cond := some uptoSmall }

/-- 'parcloselaw13.SemaOrder', WHERE WHAT IT READS IS OF BULK AT MOST 1048576: true; the input reads as it did. -/
def semaOrderUptoRow : OpenClaim := { program := "ytegpoocmhamlpaa", sum := "d7e17af46fbbb53fa505ef616b923d0dc0b726bd08aea7b92c120b214b1829bd", func := "parclose/parcloselaw13.SemaOrder", spec := "semaOrder", unfollowed := true, recurses := true, apart := false, narrowed := true }
def SemaOrderUptoSaid : Prop := semaOrderUptoRow.holds Try.pinned (OpenSpec.upto semaOrderSpec)

/-- 'parcloselaw13.SemaKeeps', WHERE WHAT IT READS IS OF BULK AT MOST 1048576: true; the input reads as it did. -/
def semaKeepsUptoRow : OpenClaim := { program := "ytegpoocmhamlpaa", sum := "d7e17af46fbbb53fa505ef616b923d0dc0b726bd08aea7b92c120b214b1829bd", func := "parclose/parcloselaw13.SemaKeeps", spec := "semaKeeps", unfollowed := true, recurses := true, apart := false, narrowed := true }
def SemaKeepsUptoSaid : Prop := semaKeepsUptoRow.holds Try.pinned (OpenSpec.upto semaKeepsSpec)

/-- 'parcloselaw13.SemaTries', WHERE WHAT IT READS IS OF BULK AT MOST 1048576: true; the input reads as it did. -/
def semaTriesUptoRow : OpenClaim := { program := "ytegpoocmhamlpaa", sum := "d7e17af46fbbb53fa505ef616b923d0dc0b726bd08aea7b92c120b214b1829bd", func := "parclose/parcloselaw13.SemaTries", spec := "semaTries", unfollowed := true, recurses := true, apart := false, narrowed := true }
def SemaTriesUptoSaid : Prop := semaTriesUptoRow.holds Try.pinned (OpenSpec.upto semaTriesSpec)

/-- 'parcloselaw13.SemaPlays', WHERE WHAT IT READS IS OF BULK AT MOST 1048576: true; the input reads as it did. -/
def semaPlaysUptoRow : OpenClaim := { program := "ytegpoocmhamlpaa", sum := "d7e17af46fbbb53fa505ef616b923d0dc0b726bd08aea7b92c120b214b1829bd", func := "parclose/parcloselaw13.SemaPlays", spec := "semaPlays", unfollowed := true, recurses := true, apart := false, narrowed := true }
def SemaPlaysUptoSaid : Prop := semaPlaysUptoRow.holds Try.pinned (OpenSpec.upto semaPlaysSpec)

/-- 'parcloselaw13.SemaNone', WHERE WHAT IT READS IS OF BULK AT MOST 1048576: true; the input reads as it did. -/
def semaNoneUptoRow : OpenClaim := { program := "ytegpoocmhamlpaa", sum := "d7e17af46fbbb53fa505ef616b923d0dc0b726bd08aea7b92c120b214b1829bd", func := "parclose/parcloselaw13.SemaNone", spec := "semaNone", unfollowed := true, recurses := true, apart := false, narrowed := true }
def SemaNoneUptoSaid : Prop := semaNoneUptoRow.holds Try.pinned (OpenSpec.upto semaNoneSpec)

/-- 'parcloselaw12.RwFirst', WHERE WHAT IT READS IS OF BULK AT MOST 1048576: true; the input reads as it did. -/
def rwFirstUptoRow : OpenClaim := { program := "ytegpoocmhamlpaa", sum := "d7e17af46fbbb53fa505ef616b923d0dc0b726bd08aea7b92c120b214b1829bd", func := "parclose/parcloselaw12.RwFirst", spec := "rwFirst", apart := false, narrowed := true }
def RwFirstUptoSaid : Prop := rwFirstUptoRow.holds Try.pinned (OpenSpec.upto rwFirstSpec)

/-- 'parcloselaw12.RwDrops', WHERE WHAT IT READS IS OF BULK AT MOST 1048576: true; the input reads as it did. -/
def rwDropsUptoRow : OpenClaim := { program := "ytegpoocmhamlpaa", sum := "d7e17af46fbbb53fa505ef616b923d0dc0b726bd08aea7b92c120b214b1829bd", func := "parclose/parcloselaw12.RwDrops", spec := "rwDrops", apart := false, narrowed := true }
def RwDropsUptoSaid : Prop := rwDropsUptoRow.holds Try.pinned (OpenSpec.upto rwDropsSpec)

/-- 'parcloselaw12.RwPlays', WHERE WHAT IT READS IS OF BULK AT MOST 1048576: true; the input reads as it did. -/
def rwPlaysUptoRow : OpenClaim := { program := "ytegpoocmhamlpaa", sum := "d7e17af46fbbb53fa505ef616b923d0dc0b726bd08aea7b92c120b214b1829bd", func := "parclose/parcloselaw12.RwPlays", spec := "rwPlays", apart := false, narrowed := true }
def RwPlaysUptoSaid : Prop := rwPlaysUptoRow.holds Try.pinned (OpenSpec.upto rwPlaysSpec)

/-- 'parcloselaw12.RwAlone', WHERE WHAT IT READS IS OF BULK AT MOST 1048576: true; the input reads as it did. -/
def rwAloneUptoRow : OpenClaim := { program := "ytegpoocmhamlpaa", sum := "d7e17af46fbbb53fa505ef616b923d0dc0b726bd08aea7b92c120b214b1829bd", func := "parclose/parcloselaw12.RwAlone", spec := "rwAlone", apart := false, narrowed := true }
def RwAloneUptoSaid : Prop := rwAloneUptoRow.holds Try.pinned (OpenSpec.upto rwAloneSpec)

/-- 'parcloselaw12.RwNone', WHERE WHAT IT READS IS OF BULK AT MOST 1048576: true; the input reads as it did. -/
def rwNoneUptoRow : OpenClaim := { program := "ytegpoocmhamlpaa", sum := "d7e17af46fbbb53fa505ef616b923d0dc0b726bd08aea7b92c120b214b1829bd", func := "parclose/parcloselaw12.RwNone", spec := "rwNone", apart := false, narrowed := true }
def RwNoneUptoSaid : Prop := rwNoneUptoRow.holds Try.pinned (OpenSpec.upto rwNoneSpec)

end Rows
end Go.Proofs.Ytegpoocmhamlpaa
