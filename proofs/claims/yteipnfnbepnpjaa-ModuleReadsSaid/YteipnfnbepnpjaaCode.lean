/- code's Width and read, and the reference's Width, compute what they say. -/
import Derived.Test.YteipnfnbepnpjaaCodeMath
namespace Go.Proofs.Yteipnfnbepnpjaa
open Go.RowKit
set_option linter.unusedVariables false

theorem ret_int {k : IntKind} {a b : Int} (h : a = b) : Ending.returned (.int k a) = .returned (.int k b) := by rw [h]
theorem ret_bool {a b : Bool} (h : a = b) : Ending.returned (.bool a) = .returned (.bool b) := by rw [h]
theorem width_if (op : Int) : (widthZ op : Int) = if op = 1 ∨ op = 7 ∨ op = 8 ∨ op = 9 ∨ op = 10 ∨ op = 21 ∨ op = 23 ∨ op = 29 ∨ op = 30 ∨ op = 31 ∨ op = 36 then 2
  else if op = 19 ∨ op = 20 ∨ op = 35 ∨ op = 40 then 3
  else if op < 0 ∨ 44 ≤ op then 0 else 1 := by
  by_cases h : 0 ≤ op
  · obtain ⟨n, rfl⟩ := Int.eq_ofNat_of_zero_le h
    rw [widthZ_nat]
    unfold widthN
    (repeat' split) <;> omega
  · unfold widthZ
    rw [if_neg h, if_neg (by omega), if_neg (by omega), if_pos (by omega)]
    rfl
set_option maxHeartbeats 1000000 in
theorem width_any (op : Int) (w : World) : Calls Try.prog 16 #[.int .i64 op] w fun e w' => e = .returned (.int .i64 (widthZ op : Nat)) ∧ w = w' := by
  have H := Lib.hid (width_if op)
  go_enter Try.func16, Try.ntmps16
  go_wp2
  all_goals
    go_ret
    refine ⟨ret_int ?_, rfl⟩
    have h := H.out
    clear H
    simp at *
    (repeat' split at h) <;> omega
set_option maxHeartbeats 1000000 in
theorem widthRef_any (op : Int) (w : World) : Calls Try.prog 17 #[.int .i64 op] w fun e w' => e = .returned (.int .i64 (widthZ op : Nat)) ∧ w = w' := by
  have H := Lib.hid (width_if op)
  go_enter Try.func17, Try.ntmps17
  go_wp2
  all_goals
    go_ret
    refine ⟨ret_int ?_, rfl⟩
    have h := H.out
    clear H
    simp at *
    (repeat' split at h) <;> omega
end Go.Proofs.Yteipnfnbepnpjaa
