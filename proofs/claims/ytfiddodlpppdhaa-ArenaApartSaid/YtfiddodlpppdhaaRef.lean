/- The reference's Cut computes what it says. -/
import Derived.Test.YtfiddodlpppdhaaChecked
import Derived.WalkKit
import Derived.WalkLawsBesides
import Derived.Test.YtfiddodlpppdhaaBits
namespace Go.Proofs.Ytfiddodlpppdhaa
open Go.RowKit

theorem cut_ref (n lo hi : Int) (w : World) : Calls Try.prog 23 #[.int .i64 n, .int .i64 lo, .int .i64 hi] w fun e w' => e = .returned (.int .i64 (if n < lo then lo else if hi < n then hi else n)) ∧ w = w' := by
  go_enter Try.func23, Try.ntmps23
  go_wp2
  all_goals
    go_ret
    refine ⟨ret_int ?_, rfl⟩
    simp [*]
end Go.Proofs.Ytfiddodlpppdhaa
