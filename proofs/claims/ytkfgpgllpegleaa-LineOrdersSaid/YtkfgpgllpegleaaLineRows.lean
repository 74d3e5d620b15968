/- plain facts of lines: who goes, in order. -/
import Derived.Test.YtkfgpgllpegleaaLineLaws
namespace Go.Proofs.Ytkfgpgllpegleaa
open Go.RowKit
set_option linter.unusedVariables false
/-- the things from number g on, with so many words each -/
def rowL : Nat → List Nat → List (Int × Nat)
  | _, [] => []
  | g, n :: r => ((g : Nat), n) :: rowL (g + 1) r
theorem rowL_sum : ∀ (D : List Nat) (g : Nat), sumL (rowL g D) = sumN D
  | [], _ => rfl
  | n :: r, g => by simp [rowL, sumL, sumN, rowL_sum r (g + 1)]
theorem rowL_len : ∀ (D : List Nat) (g : Nat), (rowL g D).length = D.length
  | [], _ => rfl
  | n :: r, g => by simp [rowL, rowL_len r (g + 1)]
theorem rowL_snoc : ∀ (D : List Nat) (g c : Nat), rowL g D ++ [(((g + D.length : Nat) : Int), c)] = rowL g (D ++ [c])
  | [], g, c => rfl
  | n :: r, g, c => by
    have := rowL_snoc r (g + 1) c
    rw [show g + (n :: r).length = g + 1 + r.length by simp; omega]
    show (((g : Nat) : Int), n) :: (rowL (g + 1) r ++ [(((g + 1 + r.length : Nat) : Int), c)]) = _
    rw [this]
    rfl
theorem rowL_ats : ∀ (D : List Nat) (g j : Nat), j < D.length → ((rowL g D).map (·.1))[j]? = some ((g + j : Nat) : Int)
  | [], _, _, h => by simp at h
  | n :: r, g, 0, _ => by simp [rowL]
  | n :: r, g, j + 1, h => by
    have := rowL_ats r (g + 1) j (by simpa using h)
    simp only [rowL, List.map_cons, List.getElem?_cons_succ]
    rw [this]
    congr 2
    omega
theorem goes_rowL (bud : Nat) : ∀ (D : List Nat) (g : Nat), ∃ G, G ≤ D.length ∧ (goes bud (rowL g D)).length = G ∧ (∀ j, j < G → (goes bud (rowL g D))[j]? = some ((g + j : Nat) : Int)) ∧ stays bud (rowL g D) = rowL (g + G) (D.drop G) ∧
      (∀ j, j < G → bud < sumN (D.drop j)) ∧ sumN (D.drop G) ≤ bud
  | [], g => ⟨0, Nat.le_refl _, rfl, fun j h => absurd h (by omega), rfl, fun j h => absurd h (by omega), Nat.zero_le _⟩
  | n :: r, g => by
    by_cases h : bud < sumL (rowL g (n :: r))
    · obtain ⟨G, h1, h2, h3, h4, h5, h6⟩ := goes_rowL bud r (g + 1)
      have h' : bud < sumL (((g : Nat), n) :: rowL (g + 1) r) := h
      have ho := goes_on h'
      refine ⟨G + 1, by simpa using h1, ?_, ?_, ?_, ?_, ?_⟩
      · show (goes bud (((g : Nat), n) :: rowL (g + 1) r)).length = _
        rw [ho.1]; simp [h2]
      · intro j hj
        show (goes bud (((g : Nat), n) :: rowL (g + 1) r))[j]? = _
        rw [ho.1]
        cases j with
        | zero => simp
        | succ j =>
          rw [List.getElem?_cons_succ, h3 j (by omega)]
          congr 2
          omega
      · show stays bud (((g : Nat), n) :: rowL (g + 1) r) = _
        rw [ho.2, h4]
        rw [show g + 1 + G = g + (G + 1) by omega]
        rfl
      · intro j hj
        cases j with
        | zero => rw [rowL_sum] at h; exact h
        | succ j => exact h5 j (by omega)
      · exact h6
    · have hs := goes_stop h
      refine ⟨0, Nat.zero_le _, by rw [hs.1]; rfl, fun j h => absurd h (by omega), by rw [hs.2]; rfl, fun j h => absurd h (by omega), ?_⟩
      rw [rowL_sum] at h
      exact Nat.le_of_not_lt h
theorem sumN_drop {D : List Nat} {m x : Nat} (h : D[m]? = some x) : sumN (D.drop m) = x + sumN (D.drop (m + 1)) := by
  obtain ⟨hl, rfl⟩ := List.getElem?_eq_some_iff.1 h
  rw [List.drop_eq_getElem_cons hl]
  rfl
theorem sumN_drop_end (D : List Nat) : sumN (D.drop D.length) = 0 := by simp [sumN]
theorem sumN_le {m : Nat} : ∀ {D : List Nat}, (∀ x ∈ D, x ≤ m) → sumN D ≤ D.length * m
  | [], _ => Nat.zero_le _
  | n :: r, h => by
    have h1 := h n List.mem_cons_self
    have h2 := sumN_le (D := r) fun x hx => h x (List.mem_cons_of_mem _ hx)
    simp only [sumN, List.length_cons, Nat.succ_mul]
    omega
/-- numbers as cells -/
def natCells (l : List Nat) : List Value := l.map fun (n : Nat) => Value.int .i64 n
theorem natCells_snoc (l : List Nat) (c : Nat) : natCells l ++ [.int .i64 (c : Nat)] = natCells (l ++ [c]) := by simp [natCells]
theorem natCells_get {l : List Nat} {j x : Nat} (h : l[j]? = some x) : (natCells l)[j]? = some (.int .i64 (x : Nat)) := by simp [natCells, h]
end Go.Proofs.Ytkfgpgllpegleaa
