/- The reference's Cut computes what it says. -/
import Derived.Test.YtkfgpgllpegleaaDoorChecked
import Derived.WalkKit
import Derived.WalkLawsBesides
import Derived.Test.YtkfgpgllpegleaaDoorBits
namespace Go.Proofs.YtkfgpgllpegleaaDoor
open Go.RowKit

theorem cut_ref (n lo hi : Int) (w : World) : Calls Tryd.prog 23 #[.int .i64 n, .int .i64 lo, .int .i64 hi] w fun e w' => e = .returned (.int .i64 (if n < lo then lo else if hi < n then hi else n)) ∧ w = w' := by
  go_enter Tryd.func23, Tryd.ntmps23
  go_wp2
  all_goals
    go_ret
    refine ⟨ret_int ?_, rfl⟩
    simp [*]
end Go.Proofs.YtkfgpgllpegleaaDoor
