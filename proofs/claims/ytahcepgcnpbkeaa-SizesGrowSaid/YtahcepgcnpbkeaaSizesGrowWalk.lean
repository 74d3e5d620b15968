/- The walk of the law SizesGrow: it answers true for every input. -/
import Derived.Test.YtahcepgcnpbkeaaSizesRef
import Derived.Test.YtahcepgcnpbkeaaSizesTellWalk
import Derived.Below
namespace Go.Proofs.Ytahcepgcnpbkeaa
open Go.RowKit
set_option linter.unusedVariables false

theorem cls_mono (n m : Int) (h : n ≤ m) : clsOf n ≤ clsOf m := by unfold clsOf; omega
theorem sz_mono (n m : Int) (h : n ≤ m) : szOf n ≤ szOf m := by unfold szOf pagesOf; omega
theorem pages_mono (n m : Int) (h : n ≤ m) : pagesOf n ≤ pagesOf m := by unfold pagesOf; omega
theorem sizesGrow.into (n m : Int) (w : World) (h1 : 1 ≤ n) (h2 : n ≤ 1073741824) (h3 : 0 ≤ m) (h4 : m ≤ 1073741824) :
    Calls Try.prog 13 #[.int .i64 n, .int .i64 m] w fun e w' => e = .returned (.bool true) ∧ Below w.heap.size w w' := by
  have f1 := cls_mono n (n + m) (by omega)
  have f2 := sz_mono n (n + m) (by omega)
  have f3 := pages_mono n (n + m) (by omega)
  have f4 : (pagesOf n - 1) * 64 < n + 1 := by unfold pagesOf; omega
  have f5 : n + 1 ≤ pagesOf n * 64 := by unfold pagesOf; omega
  have f6 : 1 ≤ pagesOf n ∧ pagesOf n ≤ 17179869185 := pagesOf_bd n
  go_enter Try.func13, Try.ntmps13
  go_wp2_with (first | (go_at_call 28; refine (alive3 _).mono ?_; rintro e w' ⟨rfl, rfl⟩) | (go_at_call 29; refine (of_any _ _).mono ?_; rintro e w' ⟨rfl, rfl⟩) | (go_at_call 33; refine (pages_any _ _).mono ?_; rintro e w' ⟨rfl, rfl⟩))
  go_ret
  exact ⟨rfl, Below.refl _ _⟩
theorem sizesGrow.out (n m : Int) (w : World) (h : ¬ (1 ≤ n ∧ n ≤ 1073741824 ∧ 0 ≤ m ∧ m ≤ 1073741824)) :
    Calls Try.prog 13 #[.int .i64 n, .int .i64 m] w fun e w' => e = .returned (.bool true) ∧ Below w.heap.size w w' := by
  go_enter Try.func13, Try.ntmps13
  go_wp2_with (first | (go_at_call 28; refine (alive3 _).mono ?_; rintro e w' ⟨rfl, rfl⟩))
  all_goals
    go_ret
    exact ⟨rfl, Below.refl _ _⟩
theorem sizesGrow.walk (a0 : Int) (a1 : Int) (w : World) (w0 : (Lit.int .i64 a0).wf = true) (w1 : (Lit.int .i64 a1).wf = true) :
    Calls Try.prog 13 #[.int .i64 a0, .int .i64 a1] w fun e w' => e = .returned (.bool true) ∧ Below w.heap.size w w' := by
  by_cases h : 1 ≤ a0 ∧ a0 ≤ 1073741824 ∧ 0 ≤ a1 ∧ a1 ≤ 1073741824
  · exact sizesGrow.into a0 a1 w h.1 h.2.1 h.2.2.1 h.2.2.2
  · exact sizesGrow.out a0 a1 w h
end Go.Proofs.Ytahcepgcnpbkeaa
