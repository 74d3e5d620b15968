/- header's Right, Word and Read compute what they say. -/
import Derived.Test.YtkfgpgllpegleaaFieldOwn
import Derived.Test.YtkfgpgllpegleaaHeaderMath
import Derived.Test.YtkfgpgllpegleaaMem
namespace Go.Proofs.Ytkfgpgllpegleaa
open Go.RowKit
set_option linter.unusedVariables false

theorem within_any (n low high : Int) (w : World) : Calls Try.prog 48 #[.int .i64 n, .int .i64 low, .int .i64 high] w fun e w' => e = .returned (.bool (decide (low ≤ n) && decide (n ≤ high))) ∧ w = w' := by
  go_enter Try.func48, Try.ntmps48
  go_wp2
  all_goals
    go_ret
    refine ⟨ret_bool ?_, rfl⟩
    simp
    try omega
theorem right_any (k c r n o : Int) (z d : Bool) (w : World) : Calls Try.prog 32 #[hdrV k c r n o z d] w fun e w' => e = .returned (.bool (rightB k c r n o)) ∧ Below w.heap.size w w' := by
  unfold hdrV
  go_enter Try.func32, Try.ntmps32
  go_wp2_with (go_at_call 48; refine (within_any _ _ _ _).mono ?_; rintro e w' ⟨rfl, rfl⟩)
  all_goals
    go_ret
    refine ⟨ret_bool ?_, (Below.refl _ _).alloc (Nat.le_refl _) _⟩
    rw [Bool.eq_iff_iff]
    simp [rightB, -not_and]
    try omega
theorem rightRef_any (k c r n o : Int) (z d : Bool) (w : World) : Calls Try.prog 34 #[hdrV k c r n o z d] w fun e w' => e = .returned (.bool (rightB k c r n o)) ∧ Below w.heap.size w w' := by
  unfold hdrV
  go_enter Try.func34, Try.ntmps34
  go_wp2
  all_goals
    go_ret
    refine ⟨ret_bool ?_, (Below.refl _ _).alloc (Nat.le_refl _) _⟩
    rw [Bool.eq_iff_iff]
    simp [rightB, -not_and]
    try omega
theorem flag_any (b : Bool) (w : World) : Calls Try.prog 49 #[.bool b] w fun e w' => e = .returned (.int .i64 (bN b : Nat)) ∧ w = w' := by
  cases b <;> (go_enter Try.func49, Try.ntmps49; go_wp2; go_ret; exact ⟨rfl, rfl⟩)
theorem flagRef_any (b : Bool) (w : World) : Calls Try.prog 51 #[.bool b] w fun e w' => e = .returned (.int .u64 (bN b : Nat)) ∧ w = w' := by
  cases b <;> (go_enter Try.func51, Try.ntmps51; go_wp2; go_ret; exact ⟨rfl, rfl⟩)
end Go.Proofs.Ytkfgpgllpegleaa
