/- Plain Lean: the next word of a text, and all of its words (layer 10), over lists of bytes. -/
import Derived.Test.YthhepfjjmilcnaaDoorLexC
namespace Go.Proofs.YthhepfjjmilcnaaDoor
open Lx Fl
/-- behind an opening quote: the text, and how many bytes to behind the closing one -/
def textGo : List UInt8 → Option (List UInt8 × Nat)
  | [] => none
  | c :: l =>
    if c.toNat = 39 then
      match l with
      | [] => some ([], 1)
      | d :: l' => if d.toNat = 39 then (textGo l').map fun p => (39 :: p.1, p.2 + 2) else some ([], 1)
    else (textGo l).map fun p => (c :: p.1, p.2 + 1)
def textP (l : List UInt8) : (Int × List UInt8) × Nat × Int :=
  match textGo (l.drop 1) with
  | none => ((0, []), 0, 10)
  | some p => ((5, p.1), p.2 + 1, 0)
/-- a sign of two bytes -/
def sign2 (l : List UInt8) : Bool := Lib.hasPrefix l [60, 62] || Lib.hasPrefix l [60, 61] || Lib.hasPrefix l [62, 61]
def signsL : List UInt8 := [40, 41, 44, 46, 61, 60, 62, 43, 45, 42, 59]
def nameP (l : List UInt8) : (Int × List UInt8) × Nat × Int :=
  if kwB (l.take (spanN wordB l)) = true then ((2, kwS (l.take (spanN wordB l))), spanN wordB l, 0)
  else if 12 < spanN wordB l then ((0, []), 0, 4)
  else ((1, l.take (spanN wordB l)), spanN wordB l, 0)
def signP (l : List UInt8) : (Int × List UInt8) × Nat × Int :=
  if sign2 l = true then ((6, l.take 2), 2, 0)
  else if signsL.contains (l.getD 0 0) = true then ((6, l.take 1), 1, 0)
  else ((0, []), 0, 100)
/-- the next word: its kind and signs, how many bytes, the error -/
def nextP (l : List UInt8) : (Int × List UInt8) × Nat × Int :=
  if l = [] then ((0, []), 0, 0)
  else if letterB (l.getD 0 0).toNat = true then nameP l
  else if digitB (l.getD 0 0).toNat = true then numP l
  else if (l.getD 0 0).toNat = 39 then textP l
  else signP l
/-- all words from a place on; or where the first one is that is none, and why -/
def lexGo : Nat → List UInt8 → Nat → List (Int × List UInt8 × Nat) → Except (Nat × Int) (List (Int × List UInt8 × Nat))
  | 0, _, _, acc => .ok acc
  | f + 1, l, at0, acc =>
    let p := at0 + spanN blankB (l.drop at0)
    let r := nextP (l.drop p)
    if r.2.2 ≠ 0 then .error (p, r.2.2)
    else if r.1.1 = 0 then .ok (acc ++ [(r.1.1, r.1.2, p)])
    else lexGo f l (p + r.2.1) (acc ++ [(r.1.1, r.1.2, p)])
end Go.Proofs.YthhepfjjmilcnaaDoor
