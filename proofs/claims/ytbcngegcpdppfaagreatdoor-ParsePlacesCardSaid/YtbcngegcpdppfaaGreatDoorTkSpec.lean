/-
  Tokens, part 1: what the cutter computes, in plain Lean. No program in sight; no statement of the seat is proved here.
-/
import Derived.Test.YtbcngegcpdppfaaGreatDoorPaSpec
import Derived.Lib.IndexMore
import Derived.Lib.AtoiAll
import Derived.Lib.ItoaNum
namespace Go.Ru
open Go

def digitsT : Bs := [48, 49, 50, 51, 52, 53, 54, 55, 56, 57]
def partsT : Bs := [97, 98, 99, 100, 101, 102, 103, 104, 105, 106, 107, 108, 109, 110, 111, 112, 113, 114, 115, 116, 117, 118, 119, 120, 121, 122, 65, 66, 67, 68, 69, 70, 71, 72, 73, 74, 75, 76, 77, 78, 79, 80, 81, 82, 83, 84, 85, 86, 87, 88, 89, 90, 95, 48, 49, 50, 51, 52, 53, 54, 55, 56, 57]
def blanksT : Bs := [32, 9, 10]
def keptT : Bs := [32, 118, 97, 114, 32, 112, 114, 111, 99, 32, 105, 110, 116, 32, 98, 111, 111, 108, 32, 97, 114, 114, 32, 102, 117, 110, 32, 105, 110, 32, 111, 117, 116, 32, 105, 102, 32, 101, 108, 115, 101, 32, 119, 104, 105, 108, 101, 32, 99, 97, 108, 108, 32, 114, 101, 116, 117, 114, 110, 32, 116, 104, 114, 111, 119, 32, 116, 114, 121, 32, 99, 97, 116, 99, 104, 32, 110, 101, 119, 32, 108, 101, 110, 32, 116, 114, 117, 101, 32, 102, 97, 108, 115, 101, 32]
def pairsT : Bs := [32, 61, 61, 32, 33, 61, 32, 60, 61, 32, 62, 61, 32, 38, 38, 32, 124, 124, 32]
def singleT : Bs := [40, 41, 123, 125, 91, 93, 44, 59, 61, 60, 62, 43, 45, 42, 47, 37, 33, 38]

/-- is a byte one of some? -/
def inB (l : Bs) (c : UInt8) : Bool := decide (Lib.indexByte l c ≥ 0)
/-- how many bytes at the head are of some -/
def runS (l : Bs) (r : Bs) : Nat := (r.takeWhile (inB l)).length

def keptP (l : Bs) : Bool := !(l == []) && (decide (Lib.indexByte l 32 < 0) && Lib.contains keptT ([32] ++ l ++ [32]))
def identP (l : Bs) : Bool := !(l == []) && (decide (l.length ≤ 20) && (l.all (inB partsT) && (decide (Lib.indexByte digitsT (l.getD 0 0) < 0) && !keptP l)))
def numP (l : Bs) : Option Int := match Lib.atoiAll l with
  | .ok v => if Lib.itoa v = l then some v else none
  | _ => none
def wordP (l : Bs) : Option (TK × Int) := match keptP l with
  | true => some (.word, 0)
  | false => match identP l with
    | true => some (.name, 0)
    | false => match numP l with
      | some v => some (.number, v)
      | none => none
def pairP (l : Bs) : Bool := decide (l.length > 1) && (!(l.getD 0 0 == 32) && (!(l.getD 1 0 == 32) && Lib.contains pairsT ([32] ++ l.take 2 ++ [32])))
def signP (l : Bs) : Nat := if pairP l then 2 else if inB singleT (l.getD 0 0) then 1 else 0

/-- tokens, or the place of a byte that is none -/
inductive CR where
  | ok (l : List Tok)
  | bad (at_ : Nat)
def CR.cons (t : Tok) : CR → CR
  | .ok l => .ok (t :: l)
  | .bad a => .bad a

/-- the tokens of what is left of a text, from a place on -/
def cutS : Nat → Bs → Nat → CR
  | 0, _, _ => .ok []
  | n + 1, r, i => match r with
    | [] => .ok []
    | c :: r' => if 0 < runS blanksT r then cutS n (r.drop (runS blanksT r)) (i + runS blanksT r)
      else if c = 35 then cutS n (r.dropWhile (fun c => !(c == 10))) (i + (r.takeWhile (fun c => !(c == 10))).length)
      else if 0 < runS partsT r then match wordP (r.take (runS partsT r)) with
        | none => .bad i
        | some (k, v) => (cutS n (r.drop (runS partsT r)) (i + runS partsT r)).cons ⟨k, v, i, r.take (runS partsT r)⟩
      else match signP r with
        | 0 => .bad i
        | m + 1 => (cutS n (r.drop (m + 1)) (i + (m + 1))).cons ⟨.sign, 0, i, r.take (m + 1)⟩
def cutT (s : Bs) : CR := cutS s.length s 0
end Go.Ru
