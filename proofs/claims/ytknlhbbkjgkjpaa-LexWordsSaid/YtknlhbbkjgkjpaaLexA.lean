/- Words of a text, plain; lists of words; HasPrefix and bad. -/
import Derived.Test.YtknlhbbkjgkjpaaRows
import Derived.Test.YtknlhbbkjgkjpaaTxt
import Derived.Test.YtknlhbbkjgkjpaaOwn
import Derived.WalkKit
import Derived.WalkSpells
import Derived.WalkLawsBesides
import Derived.Lib.TrimU
import Derived.Lib.RuneCountTail
import Derived.Laws.RangeAny
namespace Go.Proofs.Ytknlhbbkjgkjpaa
open Go Go.RowKit

abbrev By := List UInt8
/-- A word: its text, its line, its column. -/
abbrev W3 := By × Nat × Nat
def bs (l : By) : ByteArray := ⟨l.toArray⟩
theorem bs_size (l : By) : (bs l).size = l.length := by
  show l.toArray.size = _
  simp
theorem bs_list (l : By) : (bs l).toList = l := ByteArray.toList_mk _
theorem bs_inj {a b : By} (h : bs a = bs b) : a = b := by rw [← bs_list a, ← bs_list b, h]
theorem bs_beq (a b : By) : ((bs a).toList == (bs b).toList) = decide (a = b) := by
  rw [bs_list, bs_list, Bool.eq_iff_iff]
  simp
theorem bs_extract (l : By) (a b : Nat) : (bs l).extract a b = bs ((l.take b).drop a) := by
  have h : ∀ x y : ByteArray, x.data.toList = y.data.toList → x = y := by
    intro x y h
    cases x with
    | mk p =>
      cases y with
      | mk q => congr 1; exact Array.ext' h
  apply h
  rw [ByteArray.data_extract, Array.toList_extract]
  show l.toArray.toList.extract a b = ((l.take b).drop a).toArray.toList
  simp [List.drop_take]

/-- Where one is in a text. -/
structure LS where
  ws : List W3
  line : Nat
  col : Nat
  cur : Option (By × Nat)
  rem : Bool

def endS (t : LS) : LS := match t.cur with
  | some (x, a) => { t with ws := t.ws ++ [(x, t.line, a)], cur := none }
  | none => t
def pre3 : By := [239, 191, 189]
def badL (c : Nat) (l : By) : Bool := decide (c < 32) || decide (c = 127) || (decide (c = 65533) && !(decide (l.take 3 = pre3)))
def nextS (c : Nat) (x : By) (t : LS) : LS :=
  if t.rem || decide (c = 35) || decide (c = 32) then endS { t with rem := t.rem || decide (c = 35) }
  else match t.cur with
    | some (y, a) => { t with cur := some (y ++ x, a), rem := t.rem || decide (c = 35) }
    | none => { t with cur := some (x, t.col), rem := t.rem || decide (c = 35) }
def decodeL' (l : By) : Nat × Nat := Utf8.decode (bs l) 0
def lexL : Nat → By → LS → Sum (Nat × Nat) LS
  | 0, _, t => .inr (endS t)
  | f + 1, l, t =>
    if l = [] then .inr (endS t)
    else if (decodeL' l).1 = 10 then lexL f (l.drop (decodeL' l).2) { endS { t with col := t.col + 1 } with line := t.line + 1, col := 0, rem := false }
    else if badL (decodeL' l).1 l then .inl (t.line, t.col + 1)
    else lexL f (l.drop (decodeL' l).2) (nextS (decodeL' l).1 (l.take (decodeL' l).2) { t with col := t.col + 1 })
def lex0 : LS := ⟨[], 1, 0, none, false⟩
/-- What Words answers: the words, the error's number, its line, its column. -/
def finR : Sum (Nat × Nat) LS → List W3 × Nat × Nat × Nat
  | .inl p => ([], 2, p.1, p.2)
  | .inr t => (t.ws, 0, 0, 0)
def lexR (l : By) : List W3 × Nat × Nat × Nat := if l.length > 4096 then ([], 13, 0, 0) else finR (lexL l.length l lex0)
theorem lex_awake1 : lexR [97, 32, 32, 98, 99, 35, 100, 10, 32, 101] = ([([97], 1, 1), ([98, 99], 1, 4), ([101], 2, 2)], 0, 0, 0) := by decide +kernel
theorem lex_awake2 : (lexR [97, 98, 10, 32, 99, 9, 100]).2 = (2, 2, 3) := by decide +kernel
end Go.Proofs.Ytknlhbbkjgkjpaa
