/- plain facts of header words. -/
import Derived.Test.YtkfgpgllpegleaaBits
namespace Go.Proofs.Ytkfgpgllpegleaa
open Go.RowKit
set_option linter.unusedVariables false

/-- which headers may be -/
def rightB (k c r n o : Int) : Bool := decide (1 ≤ k ∧ k ≤ 8 ∧ 0 ≤ c ∧ c ≤ 4000 ∧ 0 ≤ r ∧ r ≤ 4000 ∧ 0 ≤ n ∧ n ≤ 255 ∧ 0 ≤ o ∧ o ≤ 3)
/-- a flag as a number -/
def bN (b : Bool) : Nat := if b then 1 else 0
theorem bN_le (b : Bool) : bN b ≤ 1 := by cases b <;> decide
/-- a header's word -/
def wordN (k c r n o : Nat) (z d : Bool) : Nat := k + c * 16 + r * 1048576 + n * 68719476736 + o * 17592186044416 + bN z * 70368744177664 + bN d * 140737488355328
/-- a header -/
def hdrV (k c r n o : Int) (z d : Bool) : Value := .agg #[.int .i64 k, .int .i64 c, .int .i64 r, .int .i64 n, .int .i64 o, .bool z, .bool d]
/-- the header of a word -/
def hdrOf (x : Nat) : Value := hdrV (x % 16 : Nat) (x / 16 % 65536 : Nat) (x / 1048576 % 65536 : Nat) (x / 68719476736 % 256 : Nat) (x / 17592186044416 % 4 : Nat) (x / 70368744177664 % 2 == 1) (x / 140737488355328 % 2 == 1)

theorem put_add {x v a n : Nat} (hx : x < 2 ^ a) (hv : v < 2 ^ n) (h : a + n ≤ 64) : putN x a n v = x + v * 2 ^ a := by
  have hx64 : x < 18446744073709551616 := Nat.lt_of_lt_of_le hx (by rw [show (18446744073709551616 : Nat) = 2 ^ 64 by decide]; exact Nat.pow_le_pow_right (by decide) (by omega))
  refine Nat.eq_of_testBit_eq fun i => ?_
  rw [testBit_put _ _ _ _ _ hx64 h, Nat.add_comm x, Nat.mul_comm v, Nat.testBit_two_pow_mul_add _ hx]
  by_cases h1 : i < a
  · rw [if_neg (by omega), if_pos h1]
  · rw [if_neg h1]
    by_cases h2 : i < a + n
    · rw [if_pos (by omega)]
    · rw [if_neg (by omega), Nat.testBit_lt_two_pow (Nat.lt_of_lt_of_le hx (Nat.pow_le_pow_right (by decide) (by omega))), Nat.testBit_lt_two_pow (Nat.lt_of_lt_of_le hv (Nat.pow_le_pow_right (by decide) (by omega)))]
theorem PutS_add {x v a n : Nat} (hx : x < 2 ^ a) (hv : v < 2 ^ n) (h : a + n ≤ 64) : PutS x (a : Nat) (n : Nat) v = x + v * 2 ^ a := by
  unfold PutS
  rw [cutA_toNat (by omega) (by omega), cutN_toNat (by omega) (by omega) (by omega)]
  exact put_add (by simpa using hx) (by simpa using hv) (by simpa using h)
theorem GetS_div {x a n : Nat} (h : a + n ≤ 64) : GetS x (a : Nat) (n : Nat) = x / 2 ^ a % 2 ^ n := by
  unfold GetS getN
  rw [cutA_toNat (by omega) (by omega), cutN_toNat (by omega) (by omega) (by omega), Nat.shiftRight_eq_div_pow]
  simp
theorem u64_or_add {x y a : Nat} (hx : x < 2 ^ a) (hy : y * 2 ^ a < 18446744073709551616) (ha : a < 64) : bits .or .u64 (x : Int) ((y * 2 ^ a : Nat) : Int) = ((x + y * 2 ^ a : Nat) : Int) := by
  have hx64 : x < 18446744073709551616 := Nat.lt_of_lt_of_le hx (by rw [show (18446744073709551616 : Nat) = 2 ^ 64 by decide]; exact Nat.pow_le_pow_right (by decide) (by omega))
  rw [u64_or _ _ hx64 hy]
  have h := Nat.shiftLeft_add_eq_or_of_lt hx y
  rw [Nat.shiftLeft_eq] at h
  rw [Nat.or_comm, ← h, Nat.add_comm]
theorem u64_and_mod {y n : Nat} (hy : y < 18446744073709551616) (hn : n ≤ 64) : bits .and .u64 (y : Int) ((2 ^ n - 1 : Nat) : Int) = ((y % 2 ^ n : Nat) : Int) := by
  rw [u64_and _ _ hy (by have := low_lt hn; unfold lowN at this; exact this), Nat.and_two_pow_sub_one_eq_mod]
theorem wordN_lt {k c r n o : Nat} (z d : Bool) (hk : k < 16) (hc : c < 65536) (hr : r < 65536) (hn : n < 256) (ho : o < 4) : wordN k c r n o z d < 281474976710656 := by
  have := bN_le z
  have := bN_le d
  unfold wordN
  omega
theorem bN_beq (b : Bool) : (bN b == 1) = b := by cases b <;> rfl
theorem hdrOf_word {k c r n o : Nat} (z d : Bool) (hk : k < 16) (hc : c < 65536) (hr : r < 65536) (hn : n < 256) (ho : o < 4) : hdrOf (wordN k c r n o z d) = hdrV k c r n o z d := by
  have h1 := bN_le z
  have h2 := bN_le d
  have e1 : wordN k c r n o z d % 16 = k := by unfold wordN; omega
  have e2 : wordN k c r n o z d / 16 % 65536 = c := by unfold wordN; omega
  have e3 : wordN k c r n o z d / 1048576 % 65536 = r := by unfold wordN; omega
  have e4 : wordN k c r n o z d / 68719476736 % 256 = n := by unfold wordN; omega
  have e5 : wordN k c r n o z d / 17592186044416 % 4 = o := by unfold wordN; omega
  have e6 : wordN k c r n o z d / 70368744177664 % 2 = bN z := by unfold wordN; omega
  have e7 : wordN k c r n o z d / 140737488355328 % 2 = bN d := by unfold wordN; omega
  unfold hdrOf
  rw [e1, e2, e3, e4, e5, e6, e7, bN_beq, bN_beq]
theorem bN_mod (x : Nat) : bN (x % 2 == 1) = x % 2 := by
  have h : x % 2 < 2 := Nat.mod_lt _ (by decide)
  unfold bN
  by_cases e : x % 2 = 1
  · simp [e]
  · have : x % 2 = 0 := by omega
    simp [this]
theorem word_hdr (x : Nat) : wordN (x % 16) (x / 16 % 65536) (x / 1048576 % 65536) (x / 68719476736 % 256) (x / 17592186044416 % 4) (x / 70368744177664 % 2 == 1) (x / 140737488355328 % 2 == 1) = x % 281474976710656 := by
  unfold wordN
  rw [bN_mod, bN_mod]
  omega
end Go.Proofs.Ytkfgpgllpegleaa
