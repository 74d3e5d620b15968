/- The walk of the law FieldJoins: it answers true for every input. -/
import Derived.Test.YtahcepgcnpbkeaaFieldTellsWalk
import Derived.Test.YtahcepgcnpbkeaaFieldMath
namespace Go.Proofs.Ytahcepgcnpbkeaa
open Go.RowKit
set_option linter.unusedVariables false

set_option maxHeartbeats 1000000 in
theorem fieldJoins.out (x : Nat) (a n m : Int) (w : World) (h1 : -9223372036854775808 ≤ a ∧ a ≤ 9223372036854775807) (h2 : -9223372036854775808 ≤ n ∧ n ≤ 9223372036854775807) (h3 : -9223372036854775808 ≤ m ∧ m ≤ 9223372036854775807) (hd : ¬ (0 ≤ a ∧ 0 ≤ n ∧ 0 ≤ m ∧ n ≤ 63 ∧ a + n + m ≤ 64)) :
    Calls Try.prog 8 #[.int .u64 x, .int .i64 a, .int .i64 n, .int .i64 m] w fun e w' => e = .returned (.bool true) ∧ ∃ k, w' = w.drewN k := by
  go_enter Try.func8, Try.ntmps8
  go_wp2_with (first | (go_at_call 21; refine (alive1 _).mono ?_; rintro e w' ⟨rfl, k, rfl⟩))
  all_goals
    go_ret
    exact ⟨rfl, _, rfl⟩

set_option maxHeartbeats 1000000 in
theorem fieldJoins.into (x : Nat) (a n m : Int) (w : World) (hx : x < 18446744073709551616) (ha : 0 ≤ a) (hn : 0 ≤ n) (hm : 0 ≤ m) (h63 : n ≤ 63) (h : a + n + m ≤ 64) :
    Calls Try.prog 8 #[.int .u64 x, .int .i64 a, .int .i64 n, .int .i64 m] w fun e w' => e = .returned (.bool true) ∧ ∃ k, w' = w.drewN k := by
  have j := fm_joins hx ha hn hm h
  have c1 := get_any x a (n + m)
  have c2 := get_any x a n
  have c3 := get_any x (a + n) m
  have C1 := Lib.hid c1
  have C2 := Lib.hid c2
  have C3 := Lib.hid c3
  clear c1 c2 c3
  have J := Lib.hid j
  clear j
  go_enter Try.func8, Try.ntmps8
  go_wp2_with (first | (go_at_call 21; refine (alive1 _).mono ?_; rintro e w' ⟨rfl, k, rfl⟩) | ((with_reducible refine (C1.out _ hx (by omega) (by omega)).mono ?_); rintro e w' ⟨rfl, k, rfl⟩) | ((with_reducible refine (C2.out _ hx (by omega) (by omega)).mono ?_); rintro e w' ⟨rfl, k, rfl⟩) | ((with_reducible refine (C3.out _ hx (by omega) (by omega)).mono ?_); rintro e w' ⟨rfl, k, rfl⟩))
  go_ret
  refine ⟨?_, _, rfl⟩
  show Ending.returned (.bool (((GetS x a (n + m) : Nat) : Int) == bits .or .u64 ((GetS x a n : Nat) : Int) (IntKind.u64.wrap (((GetS x (a + n) m : Nat) : Int) * 2 ^ n.toNat)))) = _
  rw [J.out]
  simp

theorem fieldJoins.walk (a0 : Int) (a1 : Int) (a2 : Int) (a3 : Int) (w : World) (w0 : (Lit.int .u64 a0).wf = true) (w1 : (Lit.int .i64 a1).wf = true) (w2 : (Lit.int .i64 a2).wf = true) (w3 : (Lit.int .i64 a3).wf = true) :
    Calls Try.prog 8 #[.int .u64 a0, .int .i64 a1, .int .i64 a2, .int .i64 a3] w fun e w' => e = .returned (.bool true) ∧ Below w.heap.size w w' := by
  have b0 := bounds_u64 w0
  obtain ⟨x, rfl⟩ := Int.eq_ofNat_of_zero_le b0.1
  have key : Calls Try.prog 8 #[.int .u64 x, .int .i64 a1, .int .i64 a2, .int .i64 a3] w fun e w' => e = .returned (.bool true) ∧ ∃ k, w' = w.drewN k := by
    by_cases hd : 0 ≤ a1 ∧ 0 ≤ a2 ∧ 0 ≤ a3 ∧ a2 ≤ 63 ∧ a1 + a2 + a3 ≤ 64
    · obtain ⟨d1, d2, d3, d4, d5⟩ := hd
      exact fieldJoins.into x a1 a2 a3 w (by omega) d1 d2 d3 d4 d5
    · exact fieldJoins.out x a1 a2 a3 w (bounds_i64 w1) (bounds_i64 w2) (bounds_i64 w3) hd
  exact key.mono fun _ _ ⟨he, k, hk⟩ => ⟨he, by rw [hk]; exact below_drewN (Below.refl _ _) k⟩
end Go.Proofs.Ytahcepgcnpbkeaa
