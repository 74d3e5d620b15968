/- Plain facts on words of 64 bits as natural numbers: fields of a word, and what the model's bit operations answer. -/
import Derived.WalkKit
import Derived.Lib.Hide
import Derived.Deep.QuietTactic
import Derived.BigQuiet
namespace Go.Proofs.Ytfiddodlpppdhaa
open Go.RowKit

/-- a number cut to a place in a word -/
def cutA (at_ : Int) : Nat := (max 0 (min at_ 64)).toNat
/-- how many bits there are from a place on -/
def cutN (at_ n : Int) : Nat := (max 0 (min n (64 - (cutA at_ : Int)))).toNat
/-- the field of n bits from a place on -/
def getN (x a n : Nat) : Nat := (x >>> a) % 2 ^ n
/-- the lowest n bits -/
def lowN (n : Nat) : Nat := 2 ^ n - 1
/-- a word with another field -/
def putN (x a n v : Nat) : Nat := (x &&& (18446744073709551615 ^^^ (lowN n <<< a))) ||| ((v <<< a) % 18446744073709551616 &&& (lowN n <<< a))

theorem cutA_le (a : Int) : cutA a ≤ 64 := by unfold cutA; omega
theorem cutN_le (a n : Int) : cutA a + cutN a n ≤ 64 := by unfold cutN; have := cutA_le a; omega
theorem cutA_in {a : Int} (h : 0 ≤ a) (h' : a ≤ 64) : (cutA a : Int) = a := by unfold cutA; omega
theorem cutA_toNat {a : Int} (h : 0 ≤ a) (h' : a ≤ 64) : cutA a = a.toNat := by unfold cutA; omega
theorem cutN_toNat {a n : Int} (h : 0 ≤ a) (hn : 0 ≤ n) (h' : a + n ≤ 64) : cutN a n = n.toNat := by
  unfold cutN; rw [cutA_in h (by omega)]; omega

theorem testBit_low (n i : Nat) : (lowN n).testBit i = decide (i < n) := by unfold lowN; exact Nat.testBit_two_pow_sub_one n i
theorem full_eq : (18446744073709551615 : Nat) = 2 ^ 64 - 1 := by decide
theorem testBit_full (i : Nat) : (18446744073709551615 : Nat).testBit i = decide (i < 64) := by rw [full_eq]; exact Nat.testBit_two_pow_sub_one 64 i
theorem testBit_big {x : Nat} (hx : x < 18446744073709551616) {i : Nat} (hi : 64 ≤ i) : x.testBit i = false :=
  Nat.testBit_lt_two_pow (Nat.lt_of_lt_of_le hx (by
    have : (2 : Nat) ^ 64 ≤ 2 ^ i := Nat.pow_le_pow_right (by decide) hi
    simpa using this))
theorem testBit_get (x a n i : Nat) : (getN x a n).testBit i = (decide (i < n) && x.testBit (a + i)) := by
  unfold getN; rw [Nat.testBit_mod_two_pow, Nat.testBit_shiftRight]
theorem testBit_put (x a n v i : Nat) (hx : x < 18446744073709551616) (h : a + n ≤ 64) :
    (putN x a n v).testBit i = if a ≤ i ∧ i < a + n then v.testBit (i - a) else x.testBit i := by
  unfold putN
  have e : (18446744073709551616 : Nat) = 2 ^ 64 := by decide
  rw [e, Nat.testBit_or, Nat.testBit_and, Nat.testBit_xor, Nat.testBit_and, testBit_full, Nat.testBit_shiftLeft, Nat.testBit_mod_two_pow, Nat.testBit_shiftLeft, testBit_low]
  by_cases hi : i < 64
  · by_cases h1 : a ≤ i
    · by_cases h2 : i < a + n
      · simp [hi, h1, h2, show i - a < n by omega]
      · simp [hi, h1, h2, show ¬ i - a < n by omega]
    · simp [hi, h1]
  · have hb := testBit_big hx (i := i) (by omega)
    have hn : ¬ i < a + n := by omega
    simp [hi, hb, hn]
theorem lt_of_bits {x : Nat} (h : ∀ i, 64 ≤ i → x.testBit i = false) : x < 18446744073709551616 := by
  have e : (18446744073709551616 : Nat) = 2 ^ 64 := by decide
  rw [e]
  exact Nat.lt_pow_two_of_testBit x h
theorem put_lt (x a n v : Nat) (hx : x < 18446744073709551616) (h : a + n ≤ 64) : putN x a n v < 18446744073709551616 :=
  lt_of_bits fun i hi => by
    rw [testBit_put x a n v i hx h, if_neg (by omega)]
    exact testBit_big hx hi
theorem get_lt (x a n : Nat) (hx : x < 18446744073709551616) : getN x a n < 18446744073709551616 :=
  lt_of_bits fun i hi => by
    rw [testBit_get, testBit_big hx (by omega), Bool.and_false]
theorem get_lt_pow (x a n : Nat) : getN x a n < 2 ^ n := Nat.mod_lt _ (Nat.two_pow_pos n)

theorem ext64 {x y : Nat} (h : ∀ i, x.testBit i = y.testBit i) : x = y := Nat.eq_of_testBit_eq h

/-! ### the model's operations on words, by natural numbers -/
theorem ofInt_u64 (a : Nat) (ha : a < 18446744073709551616) : (BitVec.ofInt 64 (a : Int)).toNat = a := by
  rw [BitVec.ofInt_natCast, BitVec.toNat_ofNat]; exact Nat.mod_eq_of_lt ha
theorem wrap_u64 (n : Nat) (h : n < 18446744073709551616) : IntKind.u64.wrap (n : Int) = n := by rw [IntKind.wrap_u64]; omega
theorem u64_and (a b : Nat) (ha : a < 18446744073709551616) (hb : b < 18446744073709551616) : bits .and .u64 (a : Int) (b : Int) = ((a &&& b : Nat) : Int) := by
  show IntKind.u64.wrap ((BitVec.ofInt 64 (a : Int) &&& BitVec.ofInt 64 (b : Int)).toNat : Int) = _
  rw [BitVec.toNat_and, ofInt_u64 a ha, ofInt_u64 b hb, wrap_u64]
  exact Nat.and_lt_two_pow (n := 64) a hb
theorem u64_or (a b : Nat) (ha : a < 18446744073709551616) (hb : b < 18446744073709551616) : bits .or .u64 (a : Int) (b : Int) = ((a ||| b : Nat) : Int) := by
  show IntKind.u64.wrap ((BitVec.ofInt 64 (a : Int) ||| BitVec.ofInt 64 (b : Int)).toNat : Int) = _
  rw [BitVec.toNat_or, ofInt_u64 a ha, ofInt_u64 b hb, wrap_u64]
  exact Nat.or_lt_two_pow (n := 64) ha hb
theorem u64_xor (a b : Nat) (ha : a < 18446744073709551616) (hb : b < 18446744073709551616) : bits .xor .u64 (a : Int) (b : Int) = ((a ^^^ b : Nat) : Int) := by
  show IntKind.u64.wrap ((BitVec.ofInt 64 (a : Int) ^^^ BitVec.ofInt 64 (b : Int)).toNat : Int) = _
  rw [BitVec.toNat_xor, ofInt_u64 a ha, ofInt_u64 b hb, wrap_u64]
  exact Nat.xor_lt_two_pow (n := 64) ha hb
theorem two_pow_le64 {n : Nat} (h : n < 64) : 2 * 2 ^ n ≤ 18446744073709551616 := by
  have : (2 : Nat) ^ (n + 1) ≤ 2 ^ 64 := Nat.pow_le_pow_right (by decide) (by omega)
  rw [Nat.pow_succ] at this
  have e : (18446744073709551616 : Nat) = 2 ^ 64 := by decide
  omega
theorem low_wrap {n : Nat} (h : n ≤ 64) : IntKind.u64.wrap (IntKind.u64.wrap ((2 : Int) ^ n) - 1) = ((lowN n : Nat) : Int) := by
  rw [IntKind.wrap_u64, IntKind.wrap_u64]
  have hp := Nat.two_pow_pos n
  have e : ((2 : Int) ^ n) = ((2 ^ n : Nat) : Int) := by simp
  rw [e]
  unfold lowN
  by_cases h64 : n = 64
  · subst h64; decide
  · have := two_pow_le64 (n := n) (by omega)
    omega
theorem bounds_i64 {n : Int} (h : (Lit.int .i64 n).wf = true) : -9223372036854775808 ≤ n ∧ n ≤ 9223372036854775807 := by
  simp [Lit.wf, IntKind.min, IntKind.max, IntKind.signed, IntKind.bits] at h
  omega
theorem bounds_u64 {n : Int} (h : (Lit.int .u64 n).wf = true) : 0 ≤ n ∧ n < 18446744073709551616 := by
  simp [Lit.wf, IntKind.min, IntKind.max, IntKind.signed, IntKind.bits] at h
  omega
theorem ret_bool {a b : Bool} (h : a = b) : Ending.returned (.bool a) = .returned (.bool b) := by rw [h]
theorem ret_ii {k k' : IntKind} {a b c d : Int} (h : a = c) (h' : b = d) : Ending.returned (.tuple #[.int k a, .int k' b]) = .returned (.tuple #[.int k c, .int k' d]) := by rw [h, h']
theorem ret_int {k : IntKind} {a b : Int} (h : a = b) : Ending.returned (.int k a) = .returned (.int k b) := by rw [h]
theorem low_lt {n : Nat} (h : n ≤ 64) : lowN n < 18446744073709551616 := by
  unfold lowN
  have : (2 : Nat) ^ n ≤ 2 ^ 64 := Nat.pow_le_pow_right (by decide) h
  have e : (18446744073709551616 : Nat) = 2 ^ 64 := by decide
  have := Nat.two_pow_pos n
  omega
theorem div_pow (x a : Nat) : ((x : Int) / 2 ^ a) = ((x >>> a : Nat) : Int) := by
  rw [Nat.shiftRight_eq_div_pow]; simp
theorem shr_lt {x : Nat} (hx : x < 18446744073709551616) (a : Nat) : x >>> a < 18446744073709551616 :=
  Nat.lt_of_le_of_lt (by rw [Nat.shiftRight_eq_div_pow]; exact Nat.div_le_self _ _) hx
theorem get_bits {x : Nat} (a : Nat) {n : Nat} (hx : x < 18446744073709551616) (h : n ≤ 64) : bits .and .u64 ((x : Int) / 2 ^ a) ((lowN n : Nat) : Int) = ((getN x a n : Nat) : Int) := by
  rw [div_pow, u64_and _ _ (shr_lt hx a) (low_lt h)]
  unfold getN lowN
  rw [Nat.and_two_pow_sub_one_eq_mod]
theorem u64_andNot (a b : Nat) (ha : a < 18446744073709551616) (hb : b < 18446744073709551616) : bits .andNot .u64 (a : Int) (b : Int) = ((a &&& (18446744073709551615 ^^^ b) : Nat) : Int) := by
  show IntKind.u64.wrap ((BitVec.ofInt 64 (a : Int) &&& ~~~ BitVec.ofInt 64 (b : Int)).toNat : Int) = _
  have e : (~~~ BitVec.ofInt 64 (b : Int)).toNat = 18446744073709551615 ^^^ b := by
    rw [← BitVec.xor_allOnes, BitVec.toNat_xor, ofInt_u64 b hb, BitVec.toNat_allOnes, Nat.xor_comm]
  rw [BitVec.toNat_and, ofInt_u64 a ha, e, wrap_u64]
  exact Nat.and_lt_two_pow (n := 64) a (Nat.xor_lt_two_pow (n := 64) (by decide) hb)
theorem shl_wrap (v a : Nat) : IntKind.u64.wrap ((v : Int) * 2 ^ a) = (((v <<< a) % 18446744073709551616 : Nat) : Int) := by
  rw [IntKind.wrap_u64, Nat.shiftLeft_eq]
  simp
theorem mask_lt {a n : Nat} (h : a + n ≤ 64) : lowN n <<< a < 18446744073709551616 :=
  lt_of_bits fun i hi => by
    rw [Nat.testBit_shiftLeft, testBit_low]
    by_cases h1 : a ≤ i
    · simp [show ¬ i - a < n by omega]
    · simp [h1]
theorem put_bits {x v a n : Nat} (hx : x < 18446744073709551616) (h : a + n ≤ 64) :
    bits .or .u64 (bits .andNot .u64 (x : Int) (IntKind.u64.wrap (((lowN n : Nat) : Int) * 2 ^ a))) (bits .and .u64 (IntKind.u64.wrap ((v : Int) * 2 ^ a)) (IntKind.u64.wrap (((lowN n : Nat) : Int) * 2 ^ a)))
      = ((putN x a n v : Nat) : Int) := by
  have hm := mask_lt h
  have hp := put_lt x a n v hx h
  have h1 : (v <<< a) % 18446744073709551616 < 18446744073709551616 := Nat.mod_lt _ (by decide)
  rw [shl_wrap (lowN n), shl_wrap v, Nat.mod_eq_of_lt hm, u64_andNot _ _ hx hm, u64_and _ _ h1 hm, u64_or]
  · rfl
  · exact Nat.and_lt_two_pow (n := 64) x (Nat.xor_lt_two_pow (n := 64) (by decide) hm)
  · exact Nat.and_lt_two_pow (n := 64) _ hm
theorem put_bits2 {x v a n : Nat} (hx : x < 18446744073709551616) (hv : v < 18446744073709551616) (h : a + n ≤ 64) :
    bits .or .u64 (bits .andNot .u64 (x : Int) (IntKind.u64.wrap (((lowN n : Nat) : Int) * 2 ^ a))) (IntKind.u64.wrap (bits .and .u64 (v : Int) ((lowN n : Nat) : Int) * 2 ^ a))
      = ((putN x a n v : Nat) : Int) := by
  have hl : lowN n < 18446744073709551616 := low_lt (by omega)
  rw [← put_bits hx h]
  congr 1
  have hm := mask_lt h
  have h1 : (v <<< a) % 18446744073709551616 < 18446744073709551616 := Nat.mod_lt _ (by decide)
  rw [u64_and _ _ hv hl, shl_wrap, shl_wrap, shl_wrap, Nat.mod_eq_of_lt hm, u64_and _ _ h1 hm]
  congr 1
  apply ext64
  intro i
  have e : (18446744073709551616 : Nat) = 2 ^ 64 := by decide
  rw [e, Nat.testBit_mod_two_pow, Nat.testBit_and, Nat.testBit_mod_two_pow, Nat.testBit_shiftLeft, Nat.testBit_shiftLeft, Nat.testBit_shiftLeft, Nat.testBit_and]
  by_cases h2 : a ≤ i <;> by_cases h3 : i < 64 <;> simp [h2, h3]
theorem fits_bits {v n : Nat} (hv : v < 18446744073709551616) (h : n ≤ 64) : (bits .andNot .u64 (v : Int) ((lowN n : Nat) : Int) == 0) = decide (v ≤ lowN n) := by
  rw [u64_andNot _ _ hv (low_lt h)]
  have e : v &&& (18446744073709551615 ^^^ lowN n) = (v >>> n) <<< n := by
    apply ext64
    intro i
    rw [Nat.testBit_and, Nat.testBit_xor, testBit_full, testBit_low, Nat.testBit_shiftLeft, Nat.testBit_shiftRight]
    by_cases h1 : i < 64
    · by_cases h2 : n ≤ i
      · simp [h1, h2, show ¬ i < n by omega, show n + (i - n) = i by omega]
      · simp [h1, h2, show i < n by omega]
    · have := testBit_big hv (i := i) (by omega)
      by_cases h2 : n ≤ i
      · simp [this, show n + (i - n) = i by omega]
      · simp [this]
        intro h; exact absurd h h2
  rw [e, Nat.shiftLeft_eq, Nat.shiftRight_eq_div_pow]
  have hp := Nat.two_pow_pos n
  by_cases hlt : v < 2 ^ n
  · rw [Nat.div_eq_of_lt hlt]
    have : v ≤ lowN n := by unfold lowN; omega
    simp [this]
  · have h1 : 0 < v / 2 ^ n := Nat.div_pos (by omega) hp
    have h2 : ¬ v ≤ lowN n := by unfold lowN; omega
    have h3 : v / 2 ^ n * 2 ^ n ≠ 0 := Nat.mul_ne_zero (by omega) (by omega)
    have h4 : (((v / 2 ^ n * 2 ^ n : Nat) : Int) == 0) = false := by
      rw [beq_eq_false_iff_ne]
      exact_mod_cast h3
    rw [h4]; simp [h2]
/-- what Get answers -/
def GetS (x : Nat) (a n : Int) : Nat := getN x (cutA a) (cutN a n)
/-- what Put answers -/
def PutS (x : Nat) (a n : Int) (v : Nat) : Nat := putN x (cutA a) (cutN a n) v
/-- what Fits answers -/
def FitS (v : Nat) (n : Int) : Bool := decide (v ≤ lowN (cutN 0 n))
theorem GetS_lt {x : Nat} (hx : x < 18446744073709551616) (a n : Int) : GetS x a n < 18446744073709551616 := get_lt _ _ _ hx
theorem PutS_lt {x : Nat} (hx : x < 18446744073709551616) (a n : Int) (v : Nat) : PutS x a n v < 18446744073709551616 := put_lt _ _ _ _ hx (cutN_le a n)
theorem testBit_GetS (x : Nat) {a n : Int} (ha : 0 ≤ a) (hn : 0 ≤ n) (h : a + n ≤ 64) (i : Nat) : (GetS x a n).testBit i = (decide (i < n.toNat) && x.testBit (a.toNat + i)) := by
  unfold GetS; rw [testBit_get, cutA_toNat ha (by omega), cutN_toNat ha hn h]
theorem testBit_PutS {x : Nat} (v : Nat) {a n : Int} (hx : x < 18446744073709551616) (ha : 0 ≤ a) (hn : 0 ≤ n) (h : a + n ≤ 64) (i : Nat) :
    (PutS x a n v).testBit i = if a.toNat ≤ i ∧ i < a.toNat + n.toNat then v.testBit (i - a.toNat) else x.testBit i := by
  unfold PutS; rw [testBit_put _ _ _ _ _ hx (cutN_le a n), cutA_toNat ha (by omega), cutN_toNat ha hn h]
theorem FitS_iff {v : Nat} {n : Int} (hn : 0 ≤ n) (h : n ≤ 64) : FitS v n = decide (v < 2 ^ n.toNat) := by
  unfold FitS
  rw [cutN_toNat (by omega) hn (by omega)]
  unfold lowN
  have := Nat.two_pow_pos n.toNat
  by_cases h1 : v < 2 ^ n.toNat
  · simp [h1]; omega
  · simp [h1]; omega
theorem quiet_left {P : Program} {f : FuncId} {args : Array Value} {w : World} {n : Nat} {v : Value}
    (h : Calls P f args (w.drewN n) fun e w' => e = .returned v ∧ w.drewN n = w') : Calls P f args (w.drewN n) fun e w'' => e = .returned v ∧ ∃ m, w'' = w.drewN m :=
  h.mono fun _ _ ⟨he, hm⟩ => ⟨he, n, hm.symm⟩

end Go.Proofs.Ytfiddodlpppdhaa
