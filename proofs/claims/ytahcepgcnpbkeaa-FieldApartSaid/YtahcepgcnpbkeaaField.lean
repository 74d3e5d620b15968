/- The functions of package field compute what they say: contracts over the seat's program. -/
import Derived.Test.YtahcepgcnpbkeaaChecked
import Derived.WalkKit
import Derived.WalkLawsBesides
import Derived.Lib.Hide
import Derived.Deep.QuietTactic
import Derived.BigQuiet
import Derived.Test.YtahcepgcnpbkeaaBits
namespace Go.Proofs.Ytahcepgcnpbkeaa
open Go.RowKit
set_option linter.unusedVariables false

theorem quiet_left {P : Program} {f : FuncId} {args : Array Value} {w : World} {n : Nat} {v : Value}
    (h : Calls P f args (w.drewN n) fun e w' => e = .returned v ∧ w.drewN n = w') : Calls P f args (w.drewN n) fun e w'' => e = .returned v ∧ ∃ m, w'' = w.drewN m :=
  h.mono fun _ _ ⟨he, hm⟩ => ⟨he, n, hm.symm⟩

theorem cut_any (a n : Int) (w : World) (ha : -9223372036854775808 ≤ a ∧ a ≤ 9223372036854775807) (hn : -9223372036854775808 ≤ n ∧ n ≤ 9223372036854775807) :
    Calls Try.prog 35 #[.int .i64 a, .int .i64 n] w fun e w' => e = .returned (.tuple #[.int .i64 (cutA a : Nat), .int .i64 (cutN a n : Nat)]) ∧ w = w' := by
  go_enter Try.func35, Try.ntmps35
  go_wp2
  all_goals
    go_ret2
    refine ⟨ret_ii ?_ ?_, rfl⟩ <;> (simp only [cutN, cutA]; omega)
theorem low_any (n : Nat) (w : World) (hn : n ≤ 64) :
    Calls Try.prog 36 #[.int .i64 n] w fun e w' => e = .returned (.int .u64 (lowN n : Nat)) ∧ w = w' := by
  go_enter Try.func36, Try.ntmps36
  go_wp2
  go_ret
  exact ⟨ret_int (low_wrap hn), rfl⟩
theorem get_any (x : Nat) (a n : Int) (w : World) (hx : x < 18446744073709551616) (ha : -9223372036854775808 ≤ a ∧ a ≤ 9223372036854775807) (hn : -9223372036854775808 ≤ n ∧ n ≤ 9223372036854775807) :
    Calls Try.prog 22 #[.int .u64 x, .int .i64 a, .int .i64 n] w fun e w' => e = .returned (.int .u64 (GetS x a n : Nat)) ∧ ∃ k, w' = w.drewN k := by
  have hA := cutA_le a
  have hN := cutN_le a n
  go_enter Try.func22, Try.ntmps22
  go_wp2_with (first | (go_at_call 35; refine (cut_any a n _ ha hn).mono ?_; rintro e w' ⟨rfl, rfl⟩))
  go_quiet ((go_at_call 36; exact quiet_left (low_any _ _ (by omega))))
  go_wp2
  go_ret
  exact ⟨ret_int (get_bits _ hx (by omega)), _, rfl⟩
theorem put_any (x v : Nat) (a n : Int) (w : World) (hx : x < 18446744073709551616) (hv : v < 18446744073709551616) (ha : -9223372036854775808 ≤ a ∧ a ≤ 9223372036854775807) (hn : -9223372036854775808 ≤ n ∧ n ≤ 9223372036854775807) :
    Calls Try.prog 24 #[.int .u64 x, .int .i64 a, .int .i64 n, .int .u64 v] w fun e w' => e = .returned (.int .u64 (PutS x a n v : Nat)) ∧ ∃ k, w' = w.drewN k := by
  have hA := cutA_le a
  have hN := cutN_le a n
  go_enter Try.func24, Try.ntmps24
  go_wp2_with (first | (go_at_call 35; refine (cut_any a n _ ha hn).mono ?_; rintro e w' ⟨rfl, rfl⟩) | (go_at_call 36; refine (low_any _ _ (by omega)).mono ?_; rintro e w' ⟨rfl, rfl⟩))
  go_ret
  exact ⟨ret_int (put_bits hx hN), 0, rfl⟩
theorem fits_any (v : Nat) (n : Int) (w : World) (hv : v < 18446744073709551616) (hn : -9223372036854775808 ≤ n ∧ n ≤ 9223372036854775807) :
    Calls Try.prog 26 #[.int .u64 v, .int .i64 n] w fun e w' => e = .returned (.bool (FitS v n)) ∧ ∃ k, w' = w.drewN k := by
  have hN := cutN_le 0 n
  have h0 : (-9223372036854775808 : Int) ≤ 0 ∧ (0 : Int) ≤ 9223372036854775807 := by omega
  go_enter Try.func26, Try.ntmps26
  go_wp2_with (first | (go_at_call 35; refine (cut_any 0 n _ h0 hn).mono ?_; rintro e w' ⟨rfl, rfl⟩) | (go_at_call 36; refine (low_any _ _ (by omega)).mono ?_; rintro e w' ⟨rfl, rfl⟩))
  go_ret
  exact ⟨rfl, 0, rfl⟩
theorem cut_ref (n lo hi : Int) (w : World) : Calls Try.prog 37 #[.int .i64 n, .int .i64 lo, .int .i64 hi] w fun e w' => e = .returned (.int .i64 (if n < lo then lo else if hi < n then hi else n)) ∧ w = w' := by
  go_enter Try.func37, Try.ntmps37
  go_wp2
  all_goals
    go_ret
    refine ⟨ret_int ?_, rfl⟩
    simp [*]
theorem ones_ref (n : Nat) (w : World) (hn : n ≤ 64) : Calls Try.prog 38 #[.int .i64 n] w fun e w' => e = .returned (.int .u64 (lowN n : Nat)) ∧ w = w' := by
  go_enter Try.func38, Try.ntmps38
  go_wp2
  all_goals
    go_ret
    refine ⟨ret_int ?_, rfl⟩
    first | exact low_wrap hn | (have e : n = 64 := (by omega); subst e; rfl)
theorem cutA_if (a : Int) : (if a < 0 then 0 else if 64 < a then 64 else a) = ((cutA a : Nat) : Int) := by simp only [cutA]; omega
theorem cutN_if (a n : Int) : (if n < 0 then 0 else if 64 - ((cutA a : Nat) : Int) < n then 64 - ((cutA a : Nat) : Int) else n) = ((cutN a n : Nat) : Int) := by simp only [cutN]; have := cutA_le a; omega
theorem cutRef_A (a : Int) (w : World) : Calls Try.prog 37 #[.int .i64 a, .int .i64 0, .int .i64 64] w fun e w' => e = .returned (.int .i64 (cutA a : Nat)) ∧ w = w' :=
  (cut_ref a 0 64 w).mono fun _ _ h => ⟨h.1.trans (ret_int (cutA_if a)), h.2⟩
theorem cutRef_N (a n : Int) (w : World) : Calls Try.prog 37 #[.int .i64 n, .int .i64 0, .int .i64 (64 - (cutA a : Nat))] w fun e w' => e = .returned (.int .i64 (cutN a n : Nat)) ∧ w = w' :=
  (cut_ref n 0 (64 - (cutA a : Nat)) w).mono fun _ _ h => ⟨h.1.trans (ret_int (cutN_if a n)), h.2⟩
theorem getRef_any (x : Nat) (a n : Int) (w : World) (hx : x < 18446744073709551616) :
    Calls Try.prog 23 #[.int .u64 x, .int .i64 a, .int .i64 n] w fun e w' => e = .returned (.int .u64 (GetS x a n : Nat)) ∧ ∃ k, w' = w.drewN k := by
  have hA := cutA_le a
  have hN := cutN_le a n
  go_enter Try.func23, Try.ntmps23
  go_wp2_with fail
  refine (cutRef_A a _).mono ?_
  rintro e w' ⟨rfl, rfl⟩
  go_wp2_with fail
  refine (cutRef_N a n _).mono ?_
  rintro e w' ⟨rfl, rfl⟩
  go_wp2_with (go_at_call 38; refine (ones_ref _ _ (by omega)).mono ?_; rintro e w' ⟨rfl, rfl⟩)
  go_ret
  exact ⟨ret_int (get_bits _ hx (by omega)), 0, rfl⟩
theorem putRef_any (x v : Nat) (a n : Int) (w : World) (hx : x < 18446744073709551616) (hv : v < 18446744073709551616) :
    Calls Try.prog 25 #[.int .u64 x, .int .i64 a, .int .i64 n, .int .u64 v] w fun e w' => e = .returned (.int .u64 (PutS x a n v : Nat)) ∧ ∃ k, w' = w.drewN k := by
  have hA := cutA_le a
  have hN := cutN_le a n
  go_enter Try.func25, Try.ntmps25
  go_wp2_with fail
  refine (cutRef_A a _).mono ?_
  rintro e w' ⟨rfl, rfl⟩
  go_wp2_with fail
  refine (cutRef_N a n _).mono ?_
  rintro e w' ⟨rfl, rfl⟩
  go_wp2_with (go_at_call 38; refine (ones_ref _ _ (by omega)).mono ?_; rintro e w' ⟨rfl, rfl⟩)
  go_ret
  exact ⟨ret_int (put_bits2 hx hv hN), 0, rfl⟩
theorem fitsRef_any (v : Nat) (n : Int) (w : World) (hv : v < 18446744073709551616) :
    Calls Try.prog 27 #[.int .u64 v, .int .i64 n] w fun e w' => e = .returned (.bool (FitS v n)) ∧ ∃ k, w' = w.drewN k := by
  have hN := cutN_le 0 n
  go_enter Try.func27, Try.ntmps27
  go_wp2_with fail
  refine (cutRef_N 0 n _).mono ?_
  rintro e w' ⟨rfl, rfl⟩
  go_wp2_with (go_at_call 38; refine (ones_ref _ _ (by omega)).mono ?_; rintro e w' ⟨rfl, rfl⟩)
  go_ret
  exact ⟨ret_bool (fits_bits hv (by omega)), 0, rfl⟩
theorem get_eq (x : Nat) (a n : Int) (r : Nat) (hx : x < 18446744073709551616) (ha : -9223372036854775808 ≤ a ∧ a ≤ 9223372036854775807) (hn : -9223372036854775808 ≤ n ∧ n ≤ 9223372036854775807) (h : GetS x a n = r) (w : World) :
    Calls Try.prog 22 #[.int .u64 x, .int .i64 a, .int .i64 n] w fun e w' => e = .returned (.int .u64 r) ∧ ∃ k, w' = w.drewN k := by
  rw [← h]; exact get_any x a n w hx ha hn
theorem put_eq (x v : Nat) (a n : Int) (r : Nat) (hx : x < 18446744073709551616) (hv : v < 18446744073709551616) (ha : -9223372036854775808 ≤ a ∧ a ≤ 9223372036854775807) (hn : -9223372036854775808 ≤ n ∧ n ≤ 9223372036854775807) (h : PutS x a n v = r) (w : World) :
    Calls Try.prog 24 #[.int .u64 x, .int .i64 a, .int .i64 n, .int .u64 v] w fun e w' => e = .returned (.int .u64 r) ∧ ∃ k, w' = w.drewN k := by
  rw [← h]; exact put_any x v a n w hx hv ha hn
theorem fits_eq (v : Nat) (n : Int) (r : Bool) (hv : v < 18446744073709551616) (hn : -9223372036854775808 ≤ n ∧ n ≤ 9223372036854775807) (h : FitS v n = r) (w : World) :
    Calls Try.prog 26 #[.int .u64 v, .int .i64 n] w fun e w' => e = .returned (.bool r) ∧ ∃ k, w' = w.drewN k := by
  rw [← h]; exact fits_any v n w hv hn
end Go.Proofs.Ytahcepgcnpbkeaa
