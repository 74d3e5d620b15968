/- least's Drop, as of a set. -/
import Derived.Test.YtogifanooleppaaLeastT
namespace Go.Proofs.Ytogifanooleppaa
open Go.RowKit Go.Maps
set_option linter.unusedVariables false

section
variable {B p N : Nat} {T : Int → Bool} {w w' : World}
theorem tDrop (x : Int) (w : World) (h : LsAt B w p N T) (hx : (Lit.int .i64 x).wf = true) (hN : N < 1048576) :
    Calls Try.prog 45 #[.pointer (some ⟨p, 0, none⟩), .int .i64 x] w fun e w' => e = .returned (.bool (T x)) ∧ LsAt B w' p (N + 1) (fun y => !decide (y = x) && T y) ∧ Below B w w' := by
  obtain ⟨m, c, q, l, M, h1, h2, h3, h4, h5, h6, h7, h8⟩ := h
  rw [← getD_T h4 x]
  refine (lsDrop_any x w h1 hx (by omega)).mono ?_
  rintro e w' ⟨rfl, k1, k2⟩
  refine ⟨rfl, ⟨m, c + 1, q, l, _, k1, by omega, by omega, fun y => ?_, h5, h6, h7, Nat.le_trans h8 k2.size⟩, k2.below h8 (by simp; exact h6)⟩
  by_cases hM : M x = some true
  · rw [if_pos hM]
    unfold updB
    by_cases hy : y = x
    · rw [if_pos hy]; simp [hy]
    · rw [if_neg hy, h4 y]; simp [hy]
  · rw [if_neg hM, h4 y]
    by_cases hy : y = x
    · have : T x = false := by
        cases hT : T x with
        | false => rfl
        | true => exact absurd ((h4 x).2 hT) hM
      rw [hy, this]; simp
    · simp [hy]
end
end Go.Proofs.Ytogifanooleppaa
