/- field's Get and Put compute what they say: contracts over the seat's program. -/
import Derived.Test.YtkfgpgllpegleaaChecked
import Derived.WalkKit
import Derived.WalkLawsBesides
import Derived.Lib.Hide
import Derived.Deep.QuietTactic
import Derived.BigQuiet
import Derived.Test.YtkfgpgllpegleaaBits
namespace Go.Proofs.Ytkfgpgllpegleaa
open Go.RowKit
set_option linter.unusedVariables false

theorem cut_any (a n : Int) (w : World) (ha : -9223372036854775808 ≤ a ∧ a ≤ 9223372036854775807) (hn : -9223372036854775808 ≤ n ∧ n ≤ 9223372036854775807) :
    Calls Try.prog 56 #[.int .i64 a, .int .i64 n] w fun e w' => e = .returned (.tuple #[.int .i64 (cutA a : Nat), .int .i64 (cutN a n : Nat)]) ∧ w = w' := by
  go_enter Try.func56, Try.ntmps56
  go_wp2
  all_goals
    go_ret2
    refine ⟨ret_ii ?_ ?_, rfl⟩ <;> (simp only [cutN, cutA]; omega)
theorem low_any (n : Nat) (w : World) (hn : n ≤ 64) :
    Calls Try.prog 57 #[.int .i64 n] w fun e w' => e = .returned (.int .u64 (lowN n : Nat)) ∧ w = w' := by
  go_enter Try.func57, Try.ntmps57
  go_wp2
  go_ret
  exact ⟨ret_int (low_wrap hn), rfl⟩
theorem get_any (x : Nat) (a n : Int) (w : World) (hx : x < 18446744073709551616) (ha : -9223372036854775808 ≤ a ∧ a ≤ 9223372036854775807) (hn : -9223372036854775808 ≤ n ∧ n ≤ 9223372036854775807) :
    Calls Try.prog 53 #[.int .u64 x, .int .i64 a, .int .i64 n] w fun e w' => e = .returned (.int .u64 (GetS x a n : Nat)) ∧ ∃ k, w' = w.drewN k := by
  have hA := cutA_le a
  have hN := cutN_le a n
  go_enter Try.func53, Try.ntmps53
  go_wp2_with (first | (go_at_call 56; refine (cut_any a n _ ha hn).mono ?_; rintro e w' ⟨rfl, rfl⟩))
  go_quiet ((go_at_call 57; exact quiet_left (low_any _ _ (by omega))))
  go_wp2
  go_ret
  exact ⟨ret_int (get_bits _ hx (by omega)), _, rfl⟩
theorem put_any (x v : Nat) (a n : Int) (w : World) (hx : x < 18446744073709551616) (hv : v < 18446744073709551616) (ha : -9223372036854775808 ≤ a ∧ a ≤ 9223372036854775807) (hn : -9223372036854775808 ≤ n ∧ n ≤ 9223372036854775807) :
    Calls Try.prog 50 #[.int .u64 x, .int .i64 a, .int .i64 n, .int .u64 v] w fun e w' => e = .returned (.int .u64 (PutS x a n v : Nat)) ∧ ∃ k, w' = w.drewN k := by
  have hA := cutA_le a
  have hN := cutN_le a n
  go_enter Try.func50, Try.ntmps50
  go_wp2_with (first | (go_at_call 56; refine (cut_any a n _ ha hn).mono ?_; rintro e w' ⟨rfl, rfl⟩) | (go_at_call 57; refine (low_any _ _ (by omega)).mono ?_; rintro e w' ⟨rfl, rfl⟩))
  go_ret
  exact ⟨ret_int (put_bits hx hN), 0, rfl⟩
theorem get_eq (x : Nat) (a n : Int) (r : Nat) (hx : x < 18446744073709551616) (ha : -9223372036854775808 ≤ a ∧ a ≤ 9223372036854775807) (hn : -9223372036854775808 ≤ n ∧ n ≤ 9223372036854775807) (h : GetS x a n = r) (w : World) :
    Calls Try.prog 53 #[.int .u64 x, .int .i64 a, .int .i64 n] w fun e w' => e = .returned (.int .u64 r) ∧ ∃ k, w' = w.drewN k := by
  rw [← h]; exact get_any x a n w hx ha hn
theorem put_eq (x v : Nat) (a n : Int) (r : Nat) (hx : x < 18446744073709551616) (hv : v < 18446744073709551616) (ha : -9223372036854775808 ≤ a ∧ a ≤ 9223372036854775807) (hn : -9223372036854775808 ≤ n ∧ n ≤ 9223372036854775807) (h : PutS x a n v = r) (w : World) :
    Calls Try.prog 50 #[.int .u64 x, .int .i64 a, .int .i64 n, .int .u64 v] w fun e w' => e = .returned (.int .u64 r) ∧ ∃ k, w' = w.drewN k := by
  rw [← h]; exact put_any x v a n w hx hv ha hn
end Go.Proofs.Ytkfgpgllpegleaa
