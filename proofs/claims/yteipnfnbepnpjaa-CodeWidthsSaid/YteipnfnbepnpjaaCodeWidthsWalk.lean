/- The walk of the law CodeWidths: it answers true for every input. -/
import Derived.Test.YteipnfnbepnpjaaCodeAlive
import Derived.Test.YteipnfnbepnpjaaOpen
namespace Go.Proofs.Yteipnfnbepnpjaa
open Go.RowKit
set_option linter.unusedVariables false

theorem widthZ_zero (op : Int) : ((widthZ op : Nat) : Int) = 0 ↔ op < 0 ∨ 44 ≤ op := by
  have h := width_if op
  (repeat' split at h) <;> omega
set_option maxRecDepth 100000 in
theorem codeWidths.walk (a0 : Int) (w : World) (w0 : (Lit.int .i64 a0).wf = true) :
    Calls Try.prog 3 #[.int .i64 a0] w fun e w' => e = .returned (.bool true) ∧ Below w.heap.size w w' := by
  have HW := Lib.hid (fun w => width_any a0 w)
  have HR := Lib.hid (fun w => widthRef_any a0 w)
  have hz := widthZ_zero a0
  generalize ((widthZ a0 : Nat) : Int) = n at HW HR hz
  have h12 : (n = 0 ∧ (a0 < 0 ∨ 44 ≤ a0)) ∨ (¬ n = 0 ∧ ¬ (a0 < 0 ∨ 44 ≤ a0)) := by omega
  clear hz
  rcases h12 with ⟨h1, h2⟩ | ⟨h1, h2⟩
  · subst h1
    rcases h2 with h2 | h2
    · have d1 : decide (a0 < 0) = true := decide_eq_true h2
      go_enter Try.func3, Try.ntmps3
      go_wp2_with (first | (go_at_call 15; refine (alive19 _).mono ?_; rintro e w1 ⟨rfl, hb⟩) | (go_at_call 16; refine (HW.out _).mono ?_; rintro e w2 ⟨rfl, rfl⟩) | (go_at_call 17; refine (HR.out _).mono ?_; rintro e w2 ⟨rfl, rfl⟩))
      go_ret
      exact ⟨rfl, by assumption⟩
    · have d1 : decide (a0 < 0) = false := by rw [decide_eq_false_iff_not]; omega
      have d2 : decide (44 ≤ a0) = true := decide_eq_true h2
      go_enter Try.func3, Try.ntmps3
      go_wp2_with (first | (go_at_call 15; refine (alive19 _).mono ?_; rintro e w1 ⟨rfl, hb⟩) | (go_at_call 16; refine (HW.out _).mono ?_; rintro e w2 ⟨rfl, rfl⟩) | (go_at_call 17; refine (HR.out _).mono ?_; rintro e w2 ⟨rfl, rfl⟩))
      go_ret
      exact ⟨rfl, by assumption⟩
  · have d0 : (n == 0) = false := by simpa using h1
    have d1 : decide (a0 < 0) = false := by rw [decide_eq_false_iff_not]; omega
    have d2 : decide (44 ≤ a0) = false := by rw [decide_eq_false_iff_not]; omega
    clear h1 h2
    go_enter Try.func3, Try.ntmps3
    go_wp2_with (first | (go_at_call 15; refine (alive19 _).mono ?_; rintro e w1 ⟨rfl, hb⟩) | (go_at_call 16; refine (HW.out _).mono ?_; rintro e w2 ⟨rfl, rfl⟩) | (go_at_call 17; refine (HR.out _).mono ?_; rintro e w2 ⟨rfl, rfl⟩))
    go_ret
    exact ⟨rfl, by assumption⟩
end Go.Proofs.Yteipnfnbepnpjaa
