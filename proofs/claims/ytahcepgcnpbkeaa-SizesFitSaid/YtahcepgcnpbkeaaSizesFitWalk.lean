/- The walk of the law SizesFit: it answers true for every input. -/
import Derived.Test.YtahcepgcnpbkeaaSizesRef
import Derived.Test.YtahcepgcnpbkeaaSizesTellWalk
import Derived.Below
namespace Go.Proofs.Ytahcepgcnpbkeaa
open Go.RowKit
set_option linter.unusedVariables false

theorem sizesFit.at0 (n : Int) (w : World) (h1 : 1 ≤ n) (h2 : n ≤ 1) :
    Calls Try.prog 12 #[.int .i64 n] w fun e w' => e = .returned (.bool true) ∧ Below w.heap.size w w' := by
  have hc : clsOf n = 0 := by unfold clsOf; omega
  have hs : szOf n = 2 := by unfold szOf; omega
  have C := Lib.hid (of_eq n 0 2 hc hs)
  have B := Lib.hid (blocks_eq 2 32 (by decide))
  clear hc hs
  go_enter Try.func12, Try.ntmps12
  go_wp2_with (first | (go_at_call 28; refine (alive3 _).mono ?_; rintro e w' ⟨rfl, rfl⟩) | (go_at_call 29; refine (C.out _).mono ?_; rintro e w' ⟨rfl, rfl⟩) | (go_at_call 31; refine (B.out _).mono ?_; rintro e w' ⟨rfl, rfl⟩))
  go_ret
  exact ⟨rfl, Below.refl _ _⟩
theorem sizesFit.at1 (n : Int) (w : World) (h1 : 2 ≤ n) (h2 : n ≤ 3) :
    Calls Try.prog 12 #[.int .i64 n] w fun e w' => e = .returned (.bool true) ∧ Below w.heap.size w w' := by
  have hc : clsOf n = 1 := by unfold clsOf; omega
  have hs : szOf n = 4 := by unfold szOf; omega
  have C := Lib.hid (of_eq n 1 4 hc hs)
  have B := Lib.hid (blocks_eq 4 16 (by decide))
  clear hc hs
  go_enter Try.func12, Try.ntmps12
  go_wp2_with (first | (go_at_call 28; refine (alive3 _).mono ?_; rintro e w' ⟨rfl, rfl⟩) | (go_at_call 29; refine (C.out _).mono ?_; rintro e w' ⟨rfl, rfl⟩) | (go_at_call 31; refine (B.out _).mono ?_; rintro e w' ⟨rfl, rfl⟩))
  go_ret
  exact ⟨rfl, Below.refl _ _⟩
theorem sizesFit.at2 (n : Int) (w : World) (h1 : 4 ≤ n) (h2 : n ≤ 7) :
    Calls Try.prog 12 #[.int .i64 n] w fun e w' => e = .returned (.bool true) ∧ Below w.heap.size w w' := by
  have hc : clsOf n = 2 := by unfold clsOf; omega
  have hs : szOf n = 8 := by unfold szOf; omega
  have C := Lib.hid (of_eq n 2 8 hc hs)
  have B := Lib.hid (blocks_eq 8 8 (by decide))
  clear hc hs
  go_enter Try.func12, Try.ntmps12
  go_wp2_with (first | (go_at_call 28; refine (alive3 _).mono ?_; rintro e w' ⟨rfl, rfl⟩) | (go_at_call 29; refine (C.out _).mono ?_; rintro e w' ⟨rfl, rfl⟩) | (go_at_call 31; refine (B.out _).mono ?_; rintro e w' ⟨rfl, rfl⟩))
  go_ret
  exact ⟨rfl, Below.refl _ _⟩
theorem sizesFit.at3 (n : Int) (w : World) (h1 : 8 ≤ n) (h2 : n ≤ 15) :
    Calls Try.prog 12 #[.int .i64 n] w fun e w' => e = .returned (.bool true) ∧ Below w.heap.size w w' := by
  have hc : clsOf n = 3 := by unfold clsOf; omega
  have hs : szOf n = 16 := by unfold szOf; omega
  have C := Lib.hid (of_eq n 3 16 hc hs)
  have B := Lib.hid (blocks_eq 16 4 (by decide))
  clear hc hs
  go_enter Try.func12, Try.ntmps12
  go_wp2_with (first | (go_at_call 28; refine (alive3 _).mono ?_; rintro e w' ⟨rfl, rfl⟩) | (go_at_call 29; refine (C.out _).mono ?_; rintro e w' ⟨rfl, rfl⟩) | (go_at_call 31; refine (B.out _).mono ?_; rintro e w' ⟨rfl, rfl⟩))
  go_ret
  exact ⟨rfl, Below.refl _ _⟩
theorem sizesFit.at4 (n : Int) (w : World) (h1 : 16 ≤ n) (h2 : n ≤ 31) :
    Calls Try.prog 12 #[.int .i64 n] w fun e w' => e = .returned (.bool true) ∧ Below w.heap.size w w' := by
  have hc : clsOf n = 4 := by unfold clsOf; omega
  have hs : szOf n = 32 := by unfold szOf; omega
  have C := Lib.hid (of_eq n 4 32 hc hs)
  have B := Lib.hid (blocks_eq 32 2 (by decide))
  clear hc hs
  go_enter Try.func12, Try.ntmps12
  go_wp2_with (first | (go_at_call 28; refine (alive3 _).mono ?_; rintro e w' ⟨rfl, rfl⟩) | (go_at_call 29; refine (C.out _).mono ?_; rintro e w' ⟨rfl, rfl⟩) | (go_at_call 31; refine (B.out _).mono ?_; rintro e w' ⟨rfl, rfl⟩))
  go_ret
  exact ⟨rfl, Below.refl _ _⟩
theorem sizesFit.at5 (n : Int) (w : World) (h1 : 32 ≤ n) (h2 : n ≤ 1073741824) :
    Calls Try.prog 12 #[.int .i64 n] w fun e w' => e = .returned (.bool true) ∧ Below w.heap.size w w' := by
  have hc : clsOf n = 5 := by unfold clsOf; omega
  have hs : szOf n = 64 * pagesOf n := by unfold szOf; omega
  have hp1 : n < 64 * pagesOf n := by unfold pagesOf; omega
  have hp2 : 64 * pagesOf n - 64 ≤ n := by unfold pagesOf; omega
  have hp3 : 1 ≤ pagesOf n ∧ pagesOf n ≤ 17179869185 := pagesOf_bd n
  have hb : blocksOf (64 * pagesOf n) = 0 := by unfold blocksOf; omega
  have d1 : decide (64 * pagesOf n ≤ n) = false := by rw [decide_eq_false_iff_not]; omega
  have d2 : decide (31 < n) = true := by rw [decide_eq_true_eq]; omega
  have C := Lib.hid (of_eq n 5 (64 * pagesOf n) hc hs)
  have B := Lib.hid (blocks_eq (64 * pagesOf n) 0 hb)
  clear hc hs hb
  go_enter Try.func12, Try.ntmps12
  go_wp2_with (first | (go_at_call 28; refine (alive3 _).mono ?_; rintro e w' ⟨rfl, rfl⟩) | (go_at_call 29; refine (C.out _).mono ?_; rintro e w' ⟨rfl, rfl⟩) | (go_at_call 31; refine (B.out _).mono ?_; rintro e w' ⟨rfl, rfl⟩) | (go_at_call 33; refine (pages_any _ _).mono ?_; rintro e w' ⟨rfl, rfl⟩))
  go_ret
  exact ⟨rfl, Below.refl _ _⟩
theorem sizesFit.out (n : Int) (w : World) (h : n < 1 ∨ 1073741824 < n) :
    Calls Try.prog 12 #[.int .i64 n] w fun e w' => e = .returned (.bool true) ∧ Below w.heap.size w w' := by
  rcases h with h | h
  all_goals
    go_enter Try.func12, Try.ntmps12
    go_wp2_with (first | (go_at_call 28; refine (alive3 _).mono ?_; rintro e w' ⟨rfl, rfl⟩))
    go_ret
    exact ⟨rfl, Below.refl _ _⟩
theorem sizesFit.walk (a0 : Int) (w : World) (w0 : (Lit.int .i64 a0).wf = true) :
    Calls Try.prog 12 #[.int .i64 a0] w fun e w' => e = .returned (.bool true) ∧ Below w.heap.size w w' := by
  by_cases h : a0 < 1 ∨ 1073741824 < a0
  · exact sizesFit.out a0 w h
  by_cases h0 : a0 ≤ 1
  · exact sizesFit.at0 a0 w (by omega) (by omega)
  by_cases h1 : a0 ≤ 3
  · exact sizesFit.at1 a0 w (by omega) (by omega)
  by_cases h2 : a0 ≤ 7
  · exact sizesFit.at2 a0 w (by omega) (by omega)
  by_cases h3 : a0 ≤ 15
  · exact sizesFit.at3 a0 w (by omega) (by omega)
  by_cases h4 : a0 ≤ 31
  · exact sizesFit.at4 a0 w (by omega) (by omega)
  exact sizesFit.at5 a0 w (by omega) (by omega)
end Go.Proofs.Ytahcepgcnpbkeaa
