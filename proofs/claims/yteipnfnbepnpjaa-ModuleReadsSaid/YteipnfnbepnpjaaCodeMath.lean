/- plain facts of instructions. -/
import Derived.Test.YteipnfnbepnpjaaMem
namespace Go.Proofs.Yteipnfnbepnpjaa
open Go.RowKit
set_option linter.unusedVariables false

/-- how long an operation is -/
def widthN (op : Nat) : Nat :=
  if op = 1 ∨ op = 7 ∨ op = 8 ∨ op = 9 ∨ op = 10 ∨ op = 21 ∨ op = 23 ∨ op = 29 ∨ op = 30 ∨ op = 31 ∨ op = 36 then 2
  else if op = 19 ∨ op = 20 ∨ op = 35 ∨ op = 40 then 3
  else if op < 44 then 1 else 0
/-- how long an operation is, of any number -/
def widthZ (op : Int) : Nat := if 0 ≤ op then widthN op.toNat else 0
theorem widthZ_nat (op : Nat) : widthZ (op : Int) = widthN op := by
  unfold widthZ
  rw [if_pos (by omega), Int.toNat_natCast]
theorem widthN_le (op : Nat) : widthN op ≤ 3 := by unfold widthN; split; omega; split; omega; split <;> omega
theorem widthZ_le (op : Int) : widthZ op ≤ 3 := by unfold widthZ; split; exact widthN_le _; omega
/-- an instruction: its place, operation, numbers -/
abbrev InsT := Nat × Nat × Nat × Nat
/-- the second number of an instruction's bytes -/
def insA (b : Nat → Nat) (at_ : Nat) : Nat :=
  if widthN (b at_) < 2 then 0 else if widthN (b at_) = 3 ∧ b at_ ≠ 35 then b (at_ + 1) + 256 * b (at_ + 2) else b (at_ + 1)
def insB (b : Nat → Nat) (at_ : Nat) : Nat := if b at_ = 35 then b (at_ + 2) else 0
/-- the instruction at a place -/
def insOf (b : Nat → Nat) (at_ : Nat) : InsT := (at_, b at_, insA b at_, insB b at_)
/-- what is read from a place on: instructions, or an error -/
def rdFrom (b : Nat → Nat) (len : Nat) : Nat → Nat → List InsT → List InsT × Nat
  | 0, _, acc => (acc, 0)
  | f + 1, at_, acc =>
    if at_ < len then
      if widthN (b at_) = 0 then ([], 8)
      else if len < at_ + widthN (b at_) then ([], 7)
      else rdFrom b len f (at_ + widthN (b at_)) (acc ++ [insOf b at_])
    else (acc, 0)
/-- what is read -/
def rdAll (b : Nat → Nat) (len : Nat) : List InsT × Nat := rdFrom b len (len + 1) 0 []
theorem rdFrom_end {b : Nat → Nat} {len f at_ : Nat} {acc : List InsT} (h : ¬ at_ < len) : rdFrom b len f at_ acc = (acc, 0) := by
  cases f with
  | zero => rfl
  | succ f => unfold rdFrom; rw [if_neg h]
theorem rdFrom_none {b : Nat → Nat} {len f at_ : Nat} {acc : List InsT} (h : at_ < len) (h0 : widthN (b at_) = 0) : rdFrom b len (f + 1) at_ acc = ([], 8) := by
  unfold rdFrom; rw [if_pos h, if_pos h0]
theorem rdFrom_short {b : Nat → Nat} {len f at_ : Nat} {acc : List InsT} (h : at_ < len) (h0 : widthN (b at_) ≠ 0) (h1 : len < at_ + widthN (b at_)) : rdFrom b len (f + 1) at_ acc = ([], 7) := by
  unfold rdFrom; rw [if_pos h, if_neg h0, if_pos h1]
theorem rdFrom_on {b : Nat → Nat} {len f at_ : Nat} {acc : List InsT} (h : at_ < len) (h0 : widthN (b at_) ≠ 0) (h1 : ¬ len < at_ + widthN (b at_)) : rdFrom b len (f + 1) at_ acc = rdFrom b len f (at_ + widthN (b at_)) (acc ++ [insOf b at_]) := by
  conv => lhs; unfold rdFrom
  rw [if_pos h, if_neg h0, if_neg h1]
/-- an instruction as cells -/
def insCells (x : InsT) : List Value := [.int .i64 (x.1 : Nat), .int .i64 (x.2.1 : Nat), .int .i64 (x.2.2.1 : Nat), .int .i64 (x.2.2.2 : Nat)]
def insV (x : InsT) : Value := .agg #[.int .i64 (x.1 : Nat), .int .i64 (x.2.1 : Nat), .int .i64 (x.2.2.1 : Nat), .int .i64 (x.2.2.2 : Nat)]
def cellsI (l : List InsT) : List Value := l.flatMap insCells
theorem cellsI_len (l : List InsT) : (cellsI l).length = l.length * 4 := by
  induction l with
  | nil => rfl
  | cons x l ih => simp only [cellsI, List.flatMap_cons, List.length_append, List.length_cons] at ih ⊢; rw [ih]; simp [insCells]; omega
theorem cellsI_snoc (l : List InsT) (x : InsT) : cellsI (l ++ [x]) = cellsI l ++ insCells x := by simp [cellsI]
theorem cellsI_at {l : List InsT} {i : Nat} {x : InsT} (h : l[i]? = some x) (j : Nat) (hj : j < 4) : (cellsI l)[i * 4 + j]? = (insCells x)[j]? := by
  induction l generalizing i with
  | nil => simp at h
  | cons y l ih =>
    simp only [cellsI, List.flatMap_cons]
    cases i with
    | zero =>
      simp at h
      subst h
      rw [Nat.zero_mul, Nat.zero_add, List.getElem?_append_left (by simp [insCells]; omega)]
    | succ i =>
      rw [List.getElem?_cons_succ] at h
      rw [List.getElem?_append_right (by simp [insCells]; omega)]
      have := ih h
      simp only [cellsI] at this
      rw [← this]
      congr 1
      simp [insCells]
      omega
end Go.Proofs.Yteipnfnbepnpjaa
