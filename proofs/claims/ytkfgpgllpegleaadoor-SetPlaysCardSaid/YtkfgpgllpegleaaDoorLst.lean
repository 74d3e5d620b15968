/- the numbers of a set, rising. -/
import Derived.Test.YtkfgpgllpegleaaDoorSetCount
import Derived.Test.YtkfgpgllpegleaaDoorInts
namespace Go.Proofs.YtkfgpgllpegleaaDoor
open Go.RowKit
set_option linter.unusedVariables false

/-- the numbers below n that are in S, rising -/
def lst (S : Nat → Bool) : Nat → List Int
  | 0 => []
  | n + 1 => lst S n ++ (if S n then [(n : Int)] else [])
theorem lst_len (S : Nat → Bool) (n : Nat) : (lst S n).length = cnt S n := by
  induction n with
  | zero => rfl
  | succ n ih => unfold lst cnt; rw [List.length_append, ih]; split <;> rfl
theorem lst_le (S : Nat → Bool) (n : Nat) : (lst S n).length ≤ n := by rw [lst_len]; exact cnt_le S n
theorem lst_congr {S S' : Nat → Bool} {n : Nat} (h : ∀ i, i < n → S i = S' i) : lst S n = lst S' n := by
  induction n with
  | zero => rfl
  | succ n ih =>
    unfold lst
    rw [ih fun i hi => h i (by omega), h n (by omega)]
theorem lst_yes {S : Nat → Bool} {n : Nat} (h : S n = true) : lst S (n + 1) = lst S n ++ [(n : Int)] := by rw [lst, if_pos h]
theorem lst_no {S : Nat → Bool} {n : Nat} (h : S n = false) : lst S (n + 1) = lst S n := by rw [lst, if_neg (by rw [h]; decide), List.append_nil]
theorem lst_skip {S : Nat → Bool} {a : Nat} : ∀ {b : Nat}, a ≤ b → (∀ i, a ≤ i → i < b → S i = false) → lst S b = lst S a := by
  intro b
  induction b with
  | zero => intro h _; rw [show a = 0 by omega]
  | succ b ih =>
    intro h hs
    by_cases he : a = b + 1
    · rw [he]
    · rw [lst_no (hs b (by omega) (by omega))]
      exact ih (by omega) fun i h1 h2 => hs i h1 (by omega)
end Go.Proofs.YtkfgpgllpegleaaDoor
