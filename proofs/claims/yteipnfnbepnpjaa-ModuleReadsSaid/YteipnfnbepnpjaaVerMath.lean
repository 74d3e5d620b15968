/- what verify's checker answers, in plain Lean: a module of one function without parameters, loc locals, and of nothing else. -/
import Derived.Test.YteipnfnbepnpjaaCodeLaw
namespace Go.Proofs.Yteipnfnbepnpjaa
open Go.RowKit
set_option linter.unusedVariables false

/-- what an instruction takes, and leaves; pa: how many the function that it names takes -/
def effN (pa op a b : Nat) : Nat × Nat :=
  if op = 1 ∨ op = 2 ∨ op = 3 ∨ op = 4 ∨ op = 7 ∨ op = 9 ∨ op = 24 ∨ op = 29 ∨ op = 43 then (0, 1)
  else if op = 5 ∨ op = 8 ∨ op = 10 ∨ op = 20 ∨ op = 22 ∨ op = 39 ∨ op = 42 then (1, 0)
  else if op = 6 then (1, 2)
  else if op = 11 ∨ op = 12 ∨ op = 13 ∨ op = 14 ∨ op = 15 ∨ op = 16 ∨ op = 17 ∨ op = 25 then (2, 1)
  else if op = 18 ∨ op = 27 ∨ op = 30 ∨ op = 32 ∨ op = 33 ∨ op = 37 ∨ op = 38 then (1, 1)
  else if op = 28 ∨ op = 31 ∨ op = 34 then (2, 0)
  else if op = 26 then (3, 0)
  else if op = 23 then (a, 1)
  else if op = 35 then (b, 1)
  else if op = 36 then (a + 1, 1)
  else if op = 21 then (pa, 1)
  else (0, 0)
def fallsN (op : Nat) : Bool := !(decide (op = 19) || decide (op = 22) || decide (op = 39))
def jumpsN (op : Nat) : Bool := decide (op = 19) || decide (op = 20) || decide (op = 40)
def namedN (loc op a b : Nat) : Bool :=
  if op = 1 ∨ op = 9 ∨ op = 10 ∨ op = 29 then false
  else if op = 7 ∨ op = 8 then decide (a < loc)
  else if op = 21 then decide (a = 0)
  else if op = 35 then decide (a = 0) && decide (b = 0)
  else true
/-- which of the first k instructions stands at a place: the last one -/
def placeN (l : List InsT) : Nat → Nat → Option Nat
  | 0, _ => none
  | k + 1, x => if l[k]?.map Prod.fst = some x then some k else placeN l k x
def numbersN (loc : Nat) (l : List InsT) (i : InsT) : Nat :=
  if namedN loc i.2.1 i.2.2.1 i.2.2.2 = false then 12
  else if (jumpsN i.2.1 && (placeN l l.length i.2.2.1).isNone) = true then 11 else 0
/-- the first instruction that is wrong by itself, of those from k on -/
def numsN (loc : Nat) (l : List InsT) : List InsT → Option (Nat × Nat)
  | [] => none
  | i :: r => if numbersN loc l i = 0 then numsN loc l r else some (i.1, numbersN loc l i)
def hN (h : List Int) (k : Nat) : Int := h[k]?.getD 0
def iN (l : List InsT) (k : Nat) : InsT := l[k]?.getD (0, 0, 0, 0)
/-- an instruction is come to -/
def comeN (h : List Int) (w : List Nat) (k : Nat) (x : Int) : Bool × List Int × List Nat :=
  if hN h k < 0 then (true, h.set k x, w ++ [k]) else (decide (hN h k = x), h, w)
/-- the height behind an instruction -/
def behindN (l : List InsT) (h : List Int) (k : Nat) : Int :=
  hN h k - ((effN 0 (iN l k).2.1 (iN l k).2.2.1 (iN l k).2.2.2).1 : Nat) + ((effN 0 (iN l k).2.1 (iN l k).2.2.1 (iN l k).2.2.2).2 : Nat)
/-- the jump of an instruction -/
def jumpN (l : List InsT) (h : List Int) (w : List Nat) (k : Nat) (x : Int) : (Nat × Nat) × List Int × List Nat :=
  if 100 < x then (((iN l k).1, 10), h, w)
  else if (comeN h w ((placeN l l.length (iN l k).2.2.1).getD 0) x).1 = false then (((iN l ((placeN l l.length (iN l k).2.2.1).getD 0)).1, 10), (comeN h w ((placeN l l.length (iN l k).2.2.1).getD 0) x).2)
  else ((0, 0), (comeN h w ((placeN l l.length (iN l k).2.2.1).getD 0) x).2)
/-- an instruction goes on somewhere else, if it may -/
def elseN (l : List InsT) (h : List Int) (w : List Nat) (k : Nat) (x : Int) : (Nat × Nat) × List Int × List Nat :=
  if jumpsN (iN l k).2.1 = false then ((0, 0), h, w) else jumpN l h w k (if (iN l k).2.1 = 40 then x + 1 else x)
/-- one step from an instruction -/
def nextN (l : List InsT) (h : List Int) (w : List Nat) (k : Nat) : (Nat × Nat) × List Int × List Nat :=
  if hN h k < ((effN 0 (iN l k).2.1 (iN l k).2.2.1 (iN l k).2.2.2).1 : Nat) ∨ 100 < behindN l h k then (((iN l k).1, 10), h, w)
  else if fallsN (iN l k).2.1 = true then
    if k + 1 = l.length then (((iN l k).1, 11), h, w)
    else if (comeN h w (k + 1) (behindN l h k)).1 = false then (((iN l (k + 1)).1, 10), (comeN h w (k + 1) (behindN l h k)).2)
    else elseN l (comeN h w (k + 1) (behindN l h k)).2.1 (comeN h w (k + 1) (behindN l h k)).2.2 k (behindN l h k)
  else elseN l h w k (behindN l h k)
/-- the whole run -/
def runV (l : List InsT) : Nat → List Int → List Nat → Option (Nat × Nat)
  | 0, _, _ => none
  | _ + 1, _, [] => some (0, 0)
  | f + 1, h, k :: w => if (nextN l h w k).1.2 = 0 then runV l f (nextN l h w k).2.1 (nextN l h w k).2.2 else some (nextN l h w k).1
def checkN (fuel loc : Nat) (l : List InsT) : Option (Nat × Nat) :=
  match numsN loc l l with
  | some r => some r
  | none => runV l fuel ((List.replicate l.length (-1)).set 0 0) [0]
/-- what is said of a function -/
def funcN (fuel loc : Nat) (b : Nat → Nat) (len : Nat) : Option (Nat × Nat) :=
  if (rdAll b len).2 = 0 then (if (rdAll b len).1.length = 0 then some (0, 11) else checkN fuel loc (rdAll b len).1) else some (0, (rdAll b len).2)
end Go.Proofs.Yteipnfnbepnpjaa
