/- The walk of the law ModuleLimits: it answers true for every input. -/
import Derived.Test.YteipnfnbepnpjaaModLimits4
import Derived.Test.YteipnfnbepnpjaaModLimits5
import Derived.Test.YteipnfnbepnpjaaModLimits6
namespace Go.Proofs.Yteipnfnbepnpjaa
open Go.RowKit Go.Maps
set_option linter.unusedVariables false
theorem moduleLimits.out (a0 : Int) (a1 : Bool) (w : World) (h : a0 < 0 ∨ 7 < a0) :
    Calls Try.prog 10 #[.int .i64 a0, .bool a1] w fun e w' => e = .returned (.bool true) ∧ Below w.heap.size w w' := by
  rcases (by omega : a0 < 0 ∨ (0 ≤ a0 ∧ 7 < a0)) with h | h
  all_goals
    go_enter Try.func10, Try.ntmps10
    go_wp2_with (go_at_call 24; refine (alive20 _).mono ?_; rintro e w1 ⟨rfl, hb⟩)
    go_ret
    exact ⟨rfl, by assumption⟩
theorem moduleLimits.walk (a0 : Int) (a1 : Bool) (w : World) (w0 : (Lit.int .i64 a0).wf = true) :
    Calls Try.prog 10 #[.int .i64 a0, .bool a1] w fun e w' => e = .returned (.bool true) ∧ Below w.heap.size w w' := by
  by_cases h : a0 < 0 ∨ 7 < a0
  · exact moduleLimits.out a0 a1 w h
  · rcases (by omega : a0 = 0 ∨ a0 = 1 ∨ a0 = 2 ∨ a0 = 3 ∨ a0 = 4 ∨ a0 = 5 ∨ a0 = 6 ∨ a0 = 7) with rfl | rfl | rfl | rfl | rfl | rfl | rfl | rfl
    · exact ml0 a1 w
    · exact ml1 a1 w
    · exact ml2 a1 w
    · exact ml3 a1 w
    · exact ml4 a1 w
    · exact ml5 a1 w
    · exact ml6 a1 w
    · exact ml7 a1 w
end Go.Proofs.Yteipnfnbepnpjaa
