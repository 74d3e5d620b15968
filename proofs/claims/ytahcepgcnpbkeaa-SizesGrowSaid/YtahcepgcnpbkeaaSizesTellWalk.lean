/- The walk of the law SizesTell: it answers true for every input. -/
import Derived.Test.YtahcepgcnpbkeaaSizesRef
import Derived.Test.YtahcepgcnpbkeaaBlocksRef
import Derived.Below
namespace Go.Proofs.Ytahcepgcnpbkeaa
open Go.RowKit
set_option linter.unusedVariables false

theorem of_eq (n c s : Int) (hc : clsOf n = c) (hs : szOf n = s) (w : World) : Calls Try.prog 29 #[.int .i64 n] w fun e w' => e = .returned (.tuple #[.int .i64 c, .int .i64 s]) ∧ w = w' := by
  rw [← hc, ← hs]; exact of_any n w
theorem blocks_eq (s r : Int) (h : blocksOf s = r) (w : World) : Calls Try.prog 31 #[.int .i64 s] w fun e w' => e = .returned (.int .i64 r) ∧ w = w' := by
  rw [← h]; exact blocks_any s w
theorem pages_eq (n r : Int) (h : pagesOf n = r) (w : World) : Calls Try.prog 33 #[.int .i64 n] w fun e w' => e = .returned (.int .i64 r) ∧ w = w' := by
  rw [← h]; exact pages_any n w
theorem alive3 (w : World) : Calls Try.prog 28 #[] w fun e w' => e = .returned (.bool true) ∧ w = w' := by
  go_enter Try.func28, Try.ntmps28
  go_wp2_with (first | (go_at_call 29; refine (of_eq 3 1 4 (by decide) (by decide) _).mono ?_; rintro e w' ⟨rfl, rfl⟩) | (go_at_call 31; refine (blocks_eq 4 16 (by decide) _).mono ?_; rintro e w' ⟨rfl, rfl⟩) | (go_at_call 33; refine (pages_eq 64 2 (by decide) _).mono ?_; rintro e w' ⟨rfl, rfl⟩))
  go_ret
  exact ⟨rfl, rfl⟩
theorem sizesTell.walk (a0 : Int) (a1 : Int) (w : World) (w0 : (Lit.int .i64 a0).wf = true) (w1 : (Lit.int .i64 a1).wf = true) :
    Calls Try.prog 11 #[.int .i64 a0, .int .i64 a1] w fun e w' => e = .returned (.bool true) ∧ Below w.heap.size w w' := by
  clear w0 w1
  go_enter Try.func11, Try.ntmps11
  go_wp2_with (first | (go_at_call 28; refine (alive3 _).mono ?_; rintro e w' ⟨rfl, rfl⟩) | (go_at_call 29; refine (of_any _ _).mono ?_; rintro e w' ⟨rfl, rfl⟩) | (go_at_call 30; refine (ofRef_any _ _).mono ?_; rintro e w' ⟨rfl, rfl⟩) | (go_at_call 31; refine (blocks_any _ _).mono ?_; rintro e w' ⟨rfl, rfl⟩) | (go_at_call 32; refine (blocksRef_any _ _).mono ?_; rintro e w' ⟨rfl, rfl⟩) | (go_at_call 33; refine (pages_any _ _).mono ?_; rintro e w' ⟨rfl, rfl⟩) | (go_at_call 34; refine (pagesRef_any _ _).mono ?_; rintro e w' ⟨rfl, rfl⟩))
  go_ret
  exact ⟨rfl, Below.refl _ _⟩
end Go.Proofs.Ytahcepgcnpbkeaa
