/- Plain facts on words of 64 bits as natural numbers: fields of a word, and what the model's bit operations answer. -/
import Derived.WalkKit
import Derived.Lib.Hide
namespace Go.Proofs.Ytahcepgcnpbkeaa
open Go.RowKit

/-- a number cut to a place in a word -/
def cutA (at_ : Int) : Nat := (max 0 (min at_ 64)).toNat
/-- how many bits there are from a place on -/
def cutN (at_ n : Int) : Nat := (max 0 (min n (64 - (cutA at_ : Int)))).toNat
/-- the field of n bits from a place on -/
def getN (x a n : Nat) : Nat := (x >>> a) % 2 ^ n
/-- the lowest n bits -/
def lowN (n : Nat) : Nat := 2 ^ n - 1
/-- a word with another field -/
def putN (x a n v : Nat) : Nat := (x &&& (18446744073709551615 ^^^ (lowN n <<< a))) ||| ((v <<< a) % 18446744073709551616 &&& (lowN n <<< a))

theorem cutA_le (a : Int) : cutA a ≤ 64 := by unfold cutA; omega
theorem cutN_le (a n : Int) : cutA a + cutN a n ≤ 64 := by unfold cutN; have := cutA_le a; omega
theorem cutA_in {a : Int} (h : 0 ≤ a) (h' : a ≤ 64) : (cutA a : Int) = a := by unfold cutA; omega
theorem cutA_toNat {a : Int} (h : 0 ≤ a) (h' : a ≤ 64) : cutA a = a.toNat := by unfold cutA; omega
theorem cutN_toNat {a n : Int} (h : 0 ≤ a) (hn : 0 ≤ n) (h' : a + n ≤ 64) : cutN a n = n.toNat := by
  unfold cutN; rw [cutA_in h (by omega)]; omega

theorem testBit_low (n i : Nat) : (lowN n).testBit i = decide (i < n) := by unfold lowN; exact Nat.testBit_two_pow_sub_one n i
theorem full_eq : (18446744073709551615 : Nat) = 2 ^ 64 - 1 := by decide
theorem testBit_full (i : Nat) : (18446744073709551615 : Nat).testBit i = decide (i < 64) := by rw [full_eq]; exact Nat.testBit_two_pow_sub_one 64 i
theorem testBit_big {x : Nat} (hx : x < 18446744073709551616) {i : Nat} (hi : 64 ≤ i) : x.testBit i = false :=
  Nat.testBit_lt_two_pow (Nat.lt_of_lt_of_le hx (by
    have : (2 : Nat) ^ 64 ≤ 2 ^ i := Nat.pow_le_pow_right (by decide) hi
    simpa using this))
theorem testBit_get (x a n i : Nat) : (getN x a n).testBit i = (decide (i < n) && x.testBit (a + i)) := by
  unfold getN; rw [Nat.testBit_mod_two_pow, Nat.testBit_shiftRight]
theorem testBit_put (x a n v i : Nat) (hx : x < 18446744073709551616) (h : a + n ≤ 64) :
    (putN x a n v).testBit i = if a ≤ i ∧ i < a + n then v.testBit (i - a) else x.testBit i := by
  unfold putN
  have e : (18446744073709551616 : Nat) = 2 ^ 64 := by decide
  rw [e, Nat.testBit_or, Nat.testBit_and, Nat.testBit_xor, Nat.testBit_and, testBit_full, Nat.testBit_shiftLeft, Nat.testBit_mod_two_pow, Nat.testBit_shiftLeft, testBit_low]
  by_cases hi : i < 64
  · by_cases h1 : a ≤ i
    · by_cases h2 : i < a + n
      · simp [hi, h1, h2, show i - a < n by omega]
      · simp [hi, h1, h2, show ¬ i - a < n by omega]
    · simp [hi, h1]
  · have hb := testBit_big hx (i := i) (by omega)
    have hn : ¬ i < a + n := by omega
    simp [hi, hb, hn]
theorem lt_of_bits {x : Nat} (h : ∀ i, 64 ≤ i → x.testBit i = false) : x < 18446744073709551616 := by
  have e : (18446744073709551616 : Nat) = 2 ^ 64 := by decide
  rw [e]
  exact Nat.lt_pow_two_of_testBit x h
theorem put_lt (x a n v : Nat) (hx : x < 18446744073709551616) (h : a + n ≤ 64) : putN x a n v < 18446744073709551616 :=
  lt_of_bits fun i hi => by
    rw [testBit_put x a n v i hx h, if_neg (by omega)]
    exact testBit_big hx hi
theorem get_lt (x a n : Nat) (hx : x < 18446744073709551616) : getN x a n < 18446744073709551616 :=
  lt_of_bits fun i hi => by
    rw [testBit_get, testBit_big hx (by omega), Bool.and_false]
theorem get_lt_pow (x a n : Nat) : getN x a n < 2 ^ n := Nat.mod_lt _ (Nat.two_pow_pos n)

theorem ext64 {x y : Nat} (h : ∀ i, x.testBit i = y.testBit i) : x = y := Nat.eq_of_testBit_eq h

/-! ### the model's operations on words, by natural numbers -/
theorem ofInt_u64 (a : Nat) (ha : a < 18446744073709551616) : (BitVec.ofInt 64 (a : Int)).toNat = a := by
  rw [BitVec.ofInt_natCast, BitVec.toNat_ofNat]; exact Nat.mod_eq_of_lt ha
theorem wrap_u64 (n : Nat) (h : n < 18446744073709551616) : IntKind.u64.wrap (n : Int) = n := by rw [IntKind.wrap_u64]; omega
theorem u64_and (a b : Nat) (ha : a < 18446744073709551616) (hb : b < 18446744073709551616) : bits .and .u64 (a : Int) (b : Int) = ((a &&& b : Nat) : Int) := by
  show IntKind.u64.wrap ((BitVec.ofInt 64 (a : Int) &&& BitVec.ofInt 64 (b : Int)).toNat : Int) = _
  rw [BitVec.toNat_and, ofInt_u64 a ha, ofInt_u64 b hb, wrap_u64]
  exact Nat.and_lt_two_pow (n := 64) a hb
theorem u64_or (a b : Nat) (ha : a < 18446744073709551616) (hb : b < 18446744073709551616) : bits .or .u64 (a : Int) (b : Int) = ((a ||| b : Nat) : Int) := by
  show IntKind.u64.wrap ((BitVec.ofInt 64 (a : Int) ||| BitVec.ofInt 64 (b : Int)).toNat : Int) = _
  rw [BitVec.toNat_or, ofInt_u64 a ha, ofInt_u64 b hb, wrap_u64]
  exact Nat.or_lt_two_pow (n := 64) ha hb
theorem u64_xor (a b : Nat) (ha : a < 18446744073709551616) (hb : b < 18446744073709551616) : bits .xor .u64 (a : Int) (b : Int) = ((a ^^^ b : Nat) : Int) := by
  show IntKind.u64.wrap ((BitVec.ofInt 64 (a : Int) ^^^ BitVec.ofInt 64 (b : Int)).toNat : Int) = _
  rw [BitVec.toNat_xor, ofInt_u64 a ha, ofInt_u64 b hb, wrap_u64]
  exact Nat.xor_lt_two_pow (n := 64) ha hb
end Go.Proofs.Ytahcepgcnpbkeaa
