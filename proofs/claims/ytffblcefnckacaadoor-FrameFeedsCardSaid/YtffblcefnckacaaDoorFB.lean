/- Plain: the lines of a head, what each of them tells, and one message. -/
import Derived.Test.YtffblcefnckacaaDoorFA
namespace Go.Frm
open Go.Lib
set_option linter.unusedVariables false
set_option linter.unusedSimpArgs false

/-- a byte of a field's name. -/
def nmB (c : UInt8) : Bool := (65 ≤ c && c ≤ 90) || (97 ≤ c && c ≤ 122) || c == 45
def foldB (c : UInt8) : UInt8 := if 65 ≤ c && c ≤ 90 then c + 32 else c
def blankB (c : UInt8) : Bool := c == 32 || c == 9
def digB (c : UInt8) : Bool := 48 ≤ c && c ≤ 57
/-- the number of digits. -/
def numD (l : List UInt8) : Nat := l.foldl (fun n c => n * 10 + (c.toNat - 48)) 0
def trimL (l : List UInt8) : List UInt8 := l.dropWhile blankB
def trimB (l : List UInt8) : List UInt8 := (trimL (trimL l).reverse).reverse
/-- a length's digits. -/
def sizeV (v : List UInt8) : Option Nat := if 1 ≤ v.length ∧ v.length ≤ 6 ∧ v.all digB then some (numD v) else none
def clen : List UInt8 := [99, 111, 110, 116, 101, 110, 116, 45, 108, 101, 110, 103, 116, 104]
/-- what a line tells: none: it is no field; some none: it tells no length. -/
def fieldV (line : List UInt8) : Option (Option Nat) :=
  match (line.dropWhile nmB) with
  | 58 :: v => if (line.takeWhile nmB) = [] then none else if v.any (fun c => c == 13 || c == 10) then none else if (line.takeWhile nmB).map foldB = clen then (sizeV (trimB v)).map some else some none
  | _ => none
/-- the place of the first line's end. -/
def eol : List UInt8 → Nat
  | [] => 0
  | c :: l => if [13, 10].isPrefixOf (c :: l) then 0 else eol l + 1
theorem eol_le : ∀ l, eol l ≤ l.length
  | [] => Nat.le_refl _
  | c :: l => by unfold eol; have := eol_le l; split <;> simp <;> omega
/-- the lines of bytes. -/
def linesF : Nat → List UInt8 → List (List UInt8)
  | 0, _ => []
  | f + 1, b => if b = [] then [] else b.take (eol b) :: linesF f (b.drop (eol b + 2))
def lines (b : List UInt8) : List (List UInt8) := linesF b.length b
/-- the lengths that lines tell; none: one of them is no field. -/
def told : List (List UInt8) → Option (List Nat)
  | [] => some []
  | l :: ls => match fieldV l with
    | none => none
    | some o => (told ls).map fun ns => o.toList ++ ns
/-- the length that a head tells (its end with it). -/
def lengthV (h : List UInt8) : Option Nat := match told (lines (h.take (h.length - 2))) with
  | some [n] => some n
  | _ => none
/-- what stands at the beginning of bytes. -/
inductive Msg where
  | more
  | bad (e : Int)
  | body (n l : Nat)
def msg (b : List UInt8) : Msg :=
  if hd b ≠ 0 ∧ hd b ≤ 1024 then
    match lengthV (b.take (hd b)) with
    | none => .bad 30
    | some l => if 65536 < l then .bad 31 else if b.length < hd b + l then .more else .body (hd b) l
  else if 1024 ≤ b.length then .bad 30 else .more
/-- all bodies of bytes, what is left of them, and the error. -/
def runF : Nat → List UInt8 → List (List UInt8) × List UInt8 × Int
  | 0, b => ([], b, 0)
  | f + 1, b => match msg b with
    | .more => ([], b, 0)
    | .bad e => ([], [], e)
    | .body n l => (fun r => ((b.drop n).take l :: r.1, r.2)) (runF f (b.drop (n + l)))
def run (b : List UInt8) : List (List UInt8) × List UInt8 × Int := runF (b.length + 1) b
end Go.Frm
