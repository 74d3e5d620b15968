/- plain facts of lines. -/
import Derived.Test.YtkfgpgllpegleaaLineLN
namespace Go.Proofs.Ytkfgpgllpegleaa
open Go.RowKit
set_option linter.unusedVariables false
theorem goes_all_len (bud : Nat) : ∀ l, (goes bud l).length + (stays bud l).length = l.length
  | [] => rfl
  | x :: r => by
    unfold goes stays
    have := goes_all_len bud r
    split <;> simp <;> omega
theorem goes_great {bud n : Nat} (h : bud < n) (a : Int) : ∀ L : List (Int × Nat), goes bud (L ++ [(a, n)]) = L.map (·.1) ++ [a] ∧ stays bud (L ++ [(a, n)]) = []
  | [] => goes_on (x := (a, n)) (r := []) (by simp [sumL]; exact h)
  | x :: r => by
    have := goes_great h a r
    have hs : bud < sumL (x :: (r ++ [(a, n)])) := by
      have := sumL_append r [(a, n)]
      simp [sumL] at this ⊢
      omega
    have h2 := goes_on hs
    rw [List.cons_append, h2.1, h2.2, this.1, this.2]
    exact ⟨rfl, rfl⟩
/-- the words behind a row of numbers -/
def sumN : List Nat → Nat
  | [] => 0
  | x :: r => x + sumN r
theorem sumN_append (l r : List Nat) : sumN (l ++ r) = sumN l + sumN r := by
  induction l with
  | nil => simp [sumN]
  | cons x l ih => simp [sumN, ih]; omega
theorem intCells_get {l : List Int} {j : Nat} {x : Int} (h : l[j]? = some x) : (intCells l)[j]? = some (.int .i64 x) := by
  simp [intCells, h]
end Go.Proofs.Ytkfgpgllpegleaa
