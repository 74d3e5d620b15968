/- The walk of the law FieldApart: it answers true for every input. -/
import Derived.Test.YtahcepgcnpbkeaaFieldTellsWalk
import Derived.Test.YtahcepgcnpbkeaaFieldMath
namespace Go.Proofs.Ytahcepgcnpbkeaa
open Go.RowKit
set_option linter.unusedVariables false

set_option maxHeartbeats 1000000 in
theorem fieldApart.out (x a b : Nat) (n m g : Int) (w : World) (h1 : -9223372036854775808 ≤ n ∧ n ≤ 9223372036854775807) (h2 : -9223372036854775808 ≤ m ∧ m ≤ 9223372036854775807) (h3 : -9223372036854775808 ≤ g ∧ g ≤ 9223372036854775807) (hd : ¬ (0 ≤ n ∧ 0 ≤ m ∧ 0 ≤ g ∧ n + m + g ≤ 64)) :
    Calls Try.prog 10 #[.int .u64 x, .int .u64 a, .int .u64 b, .int .i64 n, .int .i64 m, .int .i64 g] w fun e w' => e = .returned (.bool true) ∧ ∃ k, w' = w.drewN k := by
  go_enter Try.func10, Try.ntmps10
  go_wp2_with (first | (go_at_call 21; refine (alive1 _).mono ?_; rintro e w' ⟨rfl, k, rfl⟩))
  all_goals
    go_ret
    exact ⟨rfl, _, rfl⟩

set_option maxHeartbeats 1000000 in
theorem fieldApart.into (x a b : Nat) (n m g : Int) (w : World) (hx : x < 18446744073709551616) (ha : a < 18446744073709551616) (hb : b < 18446744073709551616) (hn : 0 ≤ n) (hm : 0 ≤ m) (hg : 0 ≤ g) (h : n + m + g ≤ 64) :
    Calls Try.prog 10 #[.int .u64 x, .int .u64 a, .int .u64 b, .int .i64 n, .int .i64 m, .int .i64 g] w fun e w' => e = .returned (.bool true) ∧ ∃ k, w' = w.drewN k := by
  have hp := PutS_lt hx 0 n a
  have hX := PutS_lt hp (n + g) m b
  have c1 := put_any x a 0 n
  have c2 := put_any (PutS x 0 n a) b (n + g) m
  have c3 := put_any x b (n + g) m
  have c4 := put_eq (PutS x (n + g) m b) a 0 n (PutS (PutS x 0 n a) (n + g) m b) (PutS_lt hx _ _ _) ha (by omega) (by omega) (fm_swap hx hn hm hg h).symm
  have c5 := get_eq (PutS (PutS x 0 n a) (n + g) m b) 0 n _ hX (by omega) (by omega) (fm_low hx hn hm hg h)
  have c6 := get_any a 0 n
  have c7 := get_eq (PutS (PutS x 0 n a) (n + g) m b) (n + g) m _ hX (by omega) (by omega) (fm_high hx hn hm hg h)
  have c8 := get_any b 0 m
  have c9 := get_eq (PutS (PutS x 0 n a) (n + g) m b) n g _ hX (by omega) (by omega) (fm_gap hx hn hm hg h)
  have c10 := get_any x n g
  have C1 := Lib.hid c1
  have C2 := Lib.hid c2
  have C3 := Lib.hid c3
  have C4 := Lib.hid c4
  have C5 := Lib.hid c5
  have C6 := Lib.hid c6
  have C7 := Lib.hid c7
  have C8 := Lib.hid c8
  have C9 := Lib.hid c9
  have C10 := Lib.hid c10
  clear c1 c2 c3 c4 c5 c6 c7 c8 c9 c10
  go_enter Try.func10, Try.ntmps10
  go_wp2_with (first | (go_at_call 21; refine (alive1 _).mono ?_; rintro e w' ⟨rfl, k, rfl⟩) | ((with_reducible refine (C1.out _ hx ha (by omega) (by omega)).mono ?_); rintro e w' ⟨rfl, k, rfl⟩) | ((with_reducible refine (C2.out _ hp hb (by omega) (by omega)).mono ?_); rintro e w' ⟨rfl, k, rfl⟩) | ((with_reducible refine (C3.out _ hx hb (by omega) (by omega)).mono ?_); rintro e w' ⟨rfl, k, rfl⟩) | ((with_reducible refine (C4.out _).mono ?_); rintro e w' ⟨rfl, k, rfl⟩) | ((with_reducible refine (C5.out _).mono ?_); rintro e w' ⟨rfl, k, rfl⟩) | ((with_reducible refine (C6.out _ ha (by omega) (by omega)).mono ?_); rintro e w' ⟨rfl, k, rfl⟩) | ((with_reducible refine (C7.out _).mono ?_); rintro e w' ⟨rfl, k, rfl⟩) | ((with_reducible refine (C8.out _ hb (by omega) (by omega)).mono ?_); rintro e w' ⟨rfl, k, rfl⟩) | ((with_reducible refine (C9.out _).mono ?_); rintro e w' ⟨rfl, k, rfl⟩) | ((with_reducible refine (C10.out _ hx (by omega) (by omega)).mono ?_); rintro e w' ⟨rfl, k, rfl⟩))
  go_ret
  exact ⟨rfl, _, rfl⟩

theorem fieldApart.walk (a0 : Int) (a1 : Int) (a2 : Int) (a3 : Int) (a4 : Int) (a5 : Int) (w : World) (w0 : (Lit.int .u64 a0).wf = true) (w1 : (Lit.int .u64 a1).wf = true) (w2 : (Lit.int .u64 a2).wf = true) (w3 : (Lit.int .i64 a3).wf = true) (w4 : (Lit.int .i64 a4).wf = true) (w5 : (Lit.int .i64 a5).wf = true) :
    Calls Try.prog 10 #[.int .u64 a0, .int .u64 a1, .int .u64 a2, .int .i64 a3, .int .i64 a4, .int .i64 a5] w fun e w' => e = .returned (.bool true) ∧ Below w.heap.size w w' := by
  have b0 := bounds_u64 w0
  have b1 := bounds_u64 w1
  have b2 := bounds_u64 w2
  obtain ⟨x, rfl⟩ := Int.eq_ofNat_of_zero_le b0.1
  obtain ⟨a, rfl⟩ := Int.eq_ofNat_of_zero_le b1.1
  obtain ⟨b, rfl⟩ := Int.eq_ofNat_of_zero_le b2.1
  have key : Calls Try.prog 10 #[.int .u64 x, .int .u64 a, .int .u64 b, .int .i64 a3, .int .i64 a4, .int .i64 a5] w fun e w' => e = .returned (.bool true) ∧ ∃ k, w' = w.drewN k := by
    by_cases hd : 0 ≤ a3 ∧ 0 ≤ a4 ∧ 0 ≤ a5 ∧ a3 + a4 + a5 ≤ 64
    · obtain ⟨d1, d2, d3, d4⟩ := hd
      exact fieldApart.into x a b a3 a4 a5 w (by omega) (by omega) (by omega) d1 d2 d3 d4
    · exact fieldApart.out x a b a3 a4 a5 w (bounds_i64 w3) (bounds_i64 w4) (bounds_i64 w5) hd
  exact key.mono fun _ _ ⟨he, k, hk⟩ => ⟨he, by rw [hk]; exact below_drewN (Below.refl _ _) k⟩
end Go.Proofs.Ytahcepgcnpbkeaa
