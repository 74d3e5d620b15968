/- math/bits.OnesCount64 counts the bits that are set. -/
import Derived.Test.YtogifanooleppaaBits
namespace Go.Proofs.Ytogifanooleppaa
open Go.RowKit

/-- how many of the lowest n bits are set -/
def pop (x : Nat) : Nat → Nat
  | 0 => 0
  | n + 1 => pop x n + (if x.testBit n then 1 else 0)

/-! ### two halves of a number -/
theorem and_split (a b c d n : Nat) (hb : b < 2 ^ n) (hd : d < 2 ^ n) : (2 ^ n * a + b) &&& (2 ^ n * c + d) = 2 ^ n * (a &&& c) + (b &&& d) := by
  apply ext64
  intro i
  have hbd : b &&& d < 2 ^ n := Nat.and_lt_two_pow b hd
  rw [Nat.testBit_and, Nat.testBit_two_pow_mul_add a hb, Nat.testBit_two_pow_mul_add c hd, Nat.testBit_two_pow_mul_add _ hbd]
  by_cases h : i < n
  · simp [h]
  · simp [h]

/-- a mask of k equal parts of n bits -/
def rep (n m : Nat) : Nat → Nat
  | 0 => 0
  | k + 1 => 2 ^ n * rep n m k + m

/-- one step of counting: two neighbouring groups of b bits are added; k pairs of groups -/
def stepP (b k x : Nat) : Nat := ((x >>> b) &&& rep (2 * b) (2 ^ b - 1) k) + (x &&& rep (2 * b) (2 ^ b - 1) k)

theorem rep_lt (n m k : Nat) (hm : m < 2 ^ n) : rep n m k < 2 ^ (n * k) := by
  induction k with
  | zero => simp [rep]
  | succ k ih =>
    unfold rep
    rw [Nat.mul_succ, Nat.pow_add, Nat.mul_comm (2 ^ (n * k))]
    have : 2 ^ n * rep n m k + 2 ^ n ≤ 2 ^ n * 2 ^ (n * k) := by
      rw [← Nat.mul_succ]; exact Nat.mul_le_mul_left _ ih
    omega

theorem low_and (x b : Nat) : x &&& (2 ^ b - 1) = x % 2 ^ b := Nat.and_two_pow_sub_one_eq_mod x b

/-- the step, group by group -/
theorem stepP_succ (b k x : Nat) :
    stepP b (k + 1) x = 2 ^ (2 * b) * stepP b k (x / 2 ^ (2 * b)) + (x / 2 ^ b % 2 ^ b + x % 2 ^ b) := by
  have hp := Nat.two_pow_pos b
  have h2 : (2 : Nat) ^ (2 * b) = 2 ^ b * 2 ^ b := by rw [Nat.two_mul, Nat.pow_add]
  have hm : 2 ^ b - 1 < 2 ^ (2 * b) := by
    rw [h2]
    have : 2 ^ b * 1 ≤ 2 ^ b * 2 ^ b := Nat.mul_le_mul_left _ hp
    omega
  unfold stepP
  rw [show rep (2 * b) (2 ^ b - 1) (k + 1) = 2 ^ (2 * b) * rep (2 * b) (2 ^ b - 1) k + (2 ^ b - 1) from rfl]
  have e1 : x = 2 ^ (2 * b) * (x / 2 ^ (2 * b)) + x % 2 ^ (2 * b) := (Nat.div_add_mod x (2 ^ (2 * b))).symm
  have e2 : x >>> b = 2 ^ (2 * b) * ((x / 2 ^ (2 * b)) >>> b) + (x >>> b) % 2 ^ (2 * b) := by
    have := (Nat.div_add_mod (x >>> b) (2 ^ (2 * b))).symm
    rw [show (x / 2 ^ (2 * b)) >>> b = (x >>> b) / 2 ^ (2 * b) from by
      rw [Nat.shiftRight_eq_div_pow, Nat.shiftRight_eq_div_pow, Nat.div_div_eq_div_mul, Nat.div_div_eq_div_mul, Nat.mul_comm]]
    exact this
  have l1 : x % 2 ^ (2 * b) < 2 ^ (2 * b) := Nat.mod_lt _ (Nat.two_pow_pos _)
  have l2 : (x >>> b) % 2 ^ (2 * b) < 2 ^ (2 * b) := Nat.mod_lt _ (Nat.two_pow_pos _)
  have a1 : x &&& (2 ^ (2 * b) * rep (2 * b) (2 ^ b - 1) k + (2 ^ b - 1)) = 2 ^ (2 * b) * ((x / 2 ^ (2 * b)) &&& rep (2 * b) (2 ^ b - 1) k) + (x % 2 ^ (2 * b) &&& (2 ^ b - 1)) := by
    have := and_split (x / 2 ^ (2 * b)) (x % 2 ^ (2 * b)) (rep (2 * b) (2 ^ b - 1) k) (2 ^ b - 1) (2 * b) l1 hm
    rw [← e1] at this; exact this
  have a2 : (x >>> b) &&& (2 ^ (2 * b) * rep (2 * b) (2 ^ b - 1) k + (2 ^ b - 1)) = 2 ^ (2 * b) * (((x / 2 ^ (2 * b)) >>> b) &&& rep (2 * b) (2 ^ b - 1) k) + ((x >>> b) % 2 ^ (2 * b) &&& (2 ^ b - 1)) := by
    have := and_split ((x / 2 ^ (2 * b)) >>> b) ((x >>> b) % 2 ^ (2 * b)) (rep (2 * b) (2 ^ b - 1) k) (2 ^ b - 1) (2 * b) l2 hm
    rw [← e2] at this; exact this
  rw [a1, a2, low_and, low_and]
  have m1 : x % 2 ^ (2 * b) % 2 ^ b = x % 2 ^ b := by rw [h2, Nat.mod_mul_right_mod]
  have m2 : (x >>> b) % 2 ^ (2 * b) % 2 ^ b = x / 2 ^ b % 2 ^ b := by rw [h2, Nat.mod_mul_right_mod, Nat.shiftRight_eq_div_pow]
  rw [m1, m2, Nat.mul_add]
  omega

/-- the sum of the lowest k groups of b bits -/
def sumG (b x : Nat) : Nat → Nat
  | 0 => 0
  | k + 1 => x % 2 ^ b + sumG b (x / 2 ^ b) k

theorem sumG_one (x : Nat) : ∀ k, sumG 1 x k = pop x k := by
  have key : ∀ k x, pop x (k + 1) = x % 2 + pop (x / 2) k := by
    intro k
    induction k with
    | zero =>
      intro x
      simp only [pop, Nat.zero_add, Nat.add_zero, Nat.testBit_zero]
      by_cases h : x % 2 = 1 <;> simp [h] <;> omega
    | succ k ih =>
      intro x
      rw [show pop x (k + 1 + 1) = pop x (k + 1) + (if x.testBit (k + 1) then 1 else 0) from rfl, ih x, Nat.testBit_succ]
      rw [show pop (x / 2) (k + 1) = pop (x / 2) k + (if (x / 2).testBit k then 1 else 0) from rfl]
      omega
  intro k
  induction k generalizing x with
  | zero => rfl
  | succ k ih =>
    rw [show sumG 1 x (k + 1) = x % 2 ^ 1 + sumG 1 (x / 2 ^ 1) k from rfl, ih, key]

/-- the lowest k groups of b bits are at most c -/
def leG (b c x : Nat) : Nat → Prop
  | 0 => True
  | k + 1 => x % 2 ^ b ≤ c ∧ leG b c (x / 2 ^ b) k

theorem pair_lt {b : Nat} (hb : 1 ≤ b) (x : Nat) : x / 2 ^ b % 2 ^ b + x % 2 ^ b < 2 ^ (2 * b) := by
  have hp : 2 ≤ 2 ^ b := by
    have := Nat.pow_le_pow_right (show 0 < 2 by decide) hb
    simpa using this
  have h2 : (2 : Nat) ^ (2 * b) = 2 ^ b * 2 ^ b := by rw [Nat.two_mul, Nat.pow_add]
  have l1 := Nat.mod_lt (x / 2 ^ b) (show 2 ^ b > 0 by omega)
  have l2 := Nat.mod_lt x (show 2 ^ b > 0 by omega)
  have : 2 * 2 ^ b ≤ 2 ^ b * 2 ^ b := Nat.mul_le_mul_right _ hp
  omega
theorem stepP_low {b : Nat} (hb : 1 ≤ b) (k x : Nat) : stepP b (k + 1) x % 2 ^ (2 * b) = x / 2 ^ b % 2 ^ b + x % 2 ^ b := by
  rw [stepP_succ, Nat.mul_add_mod, Nat.mod_eq_of_lt (pair_lt hb x)]
theorem stepP_high {b : Nat} (hb : 1 ≤ b) (k x : Nat) : stepP b (k + 1) x / 2 ^ (2 * b) = stepP b k (x / 2 ^ (2 * b)) := by
  rw [stepP_succ, Nat.mul_add_div (Nat.two_pow_pos _), Nat.div_eq_of_lt (pair_lt hb x), Nat.add_zero]
theorem div_div_group (x b : Nat) : x / 2 ^ b / 2 ^ b = x / 2 ^ (2 * b) := by
  rw [Nat.div_div_eq_div_mul, Nat.two_mul, Nat.pow_add]
theorem step_sum {b : Nat} (hb : 1 ≤ b) : ∀ k x, sumG (2 * b) (stepP b k x) k = sumG b x (2 * k) := by
  intro k
  induction k with
  | zero => intro x; rfl
  | succ k ih =>
    intro x
    rw [show sumG (2 * b) (stepP b (k + 1) x) (k + 1) = stepP b (k + 1) x % 2 ^ (2 * b) + sumG (2 * b) (stepP b (k + 1) x / 2 ^ (2 * b)) k from rfl, stepP_low hb, stepP_high hb, ih]
    rw [show 2 * (k + 1) = 2 * k + 1 + 1 from rfl]
    rw [show sumG b x (2 * k + 1 + 1) = x % 2 ^ b + (x / 2 ^ b % 2 ^ b + sumG b (x / 2 ^ b / 2 ^ b) (2 * k)) from rfl, div_div_group]
    omega
theorem step_le {b c : Nat} (hb : 1 ≤ b) : ∀ k x, leG b c x (2 * k) → leG (2 * b) (2 * c) (stepP b k x) k := by
  intro k
  induction k with
  | zero => intro x _; trivial
  | succ k ih =>
    intro x h
    rw [show 2 * (k + 1) = 2 * k + 1 + 1 from rfl] at h
    obtain ⟨h1, h2, h3⟩ := h
    refine ⟨?_, ?_⟩
    · rw [stepP_low hb]; omega
    · rw [stepP_high hb]
      exact ih _ (by rw [← div_div_group]; exact h3)
theorem step_lt {b : Nat} (hb : 1 ≤ b) : ∀ k x, stepP b k x < 2 ^ (2 * b * k) := by
  intro k
  induction k with
  | zero => intro x; simp [stepP, rep]
  | succ k ih =>
    intro x
    have h1 := ih (x / 2 ^ (2 * b))
    have h2 := pair_lt hb x
    rw [stepP_succ, Nat.mul_succ, Nat.pow_add, Nat.mul_comm (2 ^ (2 * b * k))]
    have : 2 ^ (2 * b) * stepP b k (x / 2 ^ (2 * b)) + 2 ^ (2 * b) ≤ 2 ^ (2 * b) * 2 ^ (2 * b * k) := by
      rw [← Nat.mul_succ]; exact Nat.mul_le_mul_left _ h1
    omega
theorem leG_one (x : Nat) : ∀ k, leG 1 1 x k := by
  intro k
  induction k generalizing x with
  | zero => trivial
  | succ k ih => exact ⟨by have := Nat.mod_lt x (show 2 ^ 1 > 0 by decide); omega, ih _⟩
/-- the third step: the sum first, the mask behind it; groups of four bits that are at most 4 -/
theorem step3 : ∀ k x, leG 4 4 x (2 * k) → x < 2 ^ (8 * k) → ((x >>> 4) + x) &&& rep 8 15 k = stepP 4 k x := by
  intro k
  induction k with
  | zero => intro x _ _; simp [stepP, rep]
  | succ k ih =>
    intro x h hx
    rw [show 2 * (k + 1) = 2 * k + 1 + 1 from rfl] at h
    obtain ⟨h1, h2, h3⟩ := h
    have e0 : (2 : Nat) ^ 4 = 16 := by decide
    have e8 : (2 : Nat) ^ (2 * 4) = 256 := by decide
    rw [stepP_succ, e8, e0]
    rw [e0] at h1 h2 h3
    have h3' : leG 4 4 (x / 256) (2 * k) := by
      rw [show x / 16 / 16 = x / 256 by omega] at h3; exact h3
    have hx' : x / 256 < 2 ^ (8 * k) := by
      rw [Nat.mul_succ, Nat.pow_add, show (2 : Nat) ^ 8 = 256 by decide] at hx
      exact Nat.div_lt_of_lt_mul (by rw [Nat.mul_comm]; exact hx)
    have ihk := ih (x / 256) h3' hx'
    have hn : x / 256 % 16 ≤ 4 := by
      cases k with
      | zero => simp at hx'; omega
      | succ k => exact h3'.1
    rw [show rep 8 15 (k + 1) = 2 ^ 8 * rep 8 15 k + 15 from rfl]
    have e : (x >>> 4) + x = 2 ^ 8 * (((x / 256) >>> 4) + x / 256) + (16 * (x / 256 % 16 + x / 16 % 16) + (x / 16 % 16 + x % 16)) := by
      rw [Nat.shiftRight_eq_div_pow, Nat.shiftRight_eq_div_pow, e0, show (2 : Nat) ^ 8 = 256 by decide]
      omega
    rw [e, and_split _ _ _ _ 8 (by rw [show (2 : Nat) ^ 8 = 256 by decide]; omega) (by decide), ihk]
    have l : (16 * (x / 256 % 16 + x / 16 % 16) + (x / 16 % 16 + x % 16)) &&& 15 = x / 16 % 16 + x % 16 := by
      rw [show (15 : Nat) = 2 ^ 4 - 1 by decide, low_and, e0]; omega
    rw [l]
theorem last_a {a b c d e r0 r1 r2 r3 : Nat} (h0 : a = 256 * b + r0) (h1 : b = 256 * c + r1) (h2 : c = 256 * d + r2) (h3 : d = 256 * e + r3) (l0 : r0 ≤ 8) (l1 : r1 ≤ 8) (l2 : r2 ≤ 8) : (a + b) / 65536 = c + d := by
  subst h3 h2 h1 h0
  omega
theorem last_b {a b c d e f g i r0 r1 r2 r3 r4 r5 r6 : Nat} (h0 : a = 256 * b + r0) (h1 : b = 256 * c + r1) (h2 : c = 256 * d + r2) (h3 : d = 256 * e + r3) (h4 : e = 256 * f + r4) (h5 : f = 256 * g + r5) (h6 : g = 256 * i + r6)
    (l0 : r0 ≤ 8) (l1 : r1 ≤ 8) (l2 : r2 ≤ 8) (l3 : r3 ≤ 8) (l4 : r4 ≤ 8) (l5 : r5 ≤ 8) (l6 : r6 ≤ 8) (l7 : i ≤ 8) : (a + b + (c + d)) / 4294967296 = e + f + g + i := by
  subst h6 h5 h4 h3 h2 h1 h0
  omega
theorem last_c {a b c d e f g i r0 r1 r2 r3 r4 r5 r6 : Nat} (h0 : a = 256 * b + r0) (h1 : b = 256 * c + r1) (h2 : c = 256 * d + r2) (h3 : d = 256 * e + r3) (h4 : e = 256 * f + r4) (h5 : f = 256 * g + r5) (h6 : g = 256 * i + r6)
    (l0 : r0 ≤ 8) (l1 : r1 ≤ 8) (l2 : r2 ≤ 8) (l3 : r3 ≤ 8) (l4 : r4 ≤ 8) (l5 : r5 ≤ 8) (l6 : r6 ≤ 8) (l7 : i ≤ 8) : (a + b + (c + d) + (e + f + g + i)) % 128 = r0 + (r1 + (r2 + (r3 + (r4 + (r5 + (r6 + i)))))) := by
  omega
/-- counting by the last three sums -/
theorem last3 (y : Nat) (h : leG 8 8 y 8) (hy : y < 2 ^ 64) :
    (y + y / 256 + (y + y / 256) / 65536 + (y + y / 256 + (y + y / 256) / 65536) / 4294967296) % 128 = sumG 8 y 8 := by
  obtain ⟨h0, h1, h2, h3, h4, h5, h6, h7, _⟩ := h
  simp only [sumG, show (2 : Nat) ^ 8 = 256 by decide] at h0 h1 h2 h3 h4 h5 h6 h7 ⊢
  have hj : y / 256 / 256 / 256 / 256 / 256 / 256 / 256 / 256 = 0 := by
    simp only [Nat.div_div_eq_div_mul]
    exact Nat.div_eq_of_lt (by simpa using hy)
  have d0 := (Nat.div_add_mod y 256).symm
  have d1 := (Nat.div_add_mod (y / 256) 256).symm
  have d2 := (Nat.div_add_mod (y / 256 / 256) 256).symm
  have d3 := (Nat.div_add_mod (y / 256 / 256 / 256) 256).symm
  have d4 := (Nat.div_add_mod (y / 256 / 256 / 256 / 256) 256).symm
  have d5 := (Nat.div_add_mod (y / 256 / 256 / 256 / 256 / 256) 256).symm
  have d6 := (Nat.div_add_mod (y / 256 / 256 / 256 / 256 / 256 / 256) 256).symm
  have d7 := (Nat.div_add_mod (y / 256 / 256 / 256 / 256 / 256 / 256 / 256) 256).symm
  rw [hj, Nat.mul_zero, Nat.zero_add] at d7
  rw [← d7] at h7
  rw [last_a d0 d1 d2 d3 h0 h1 h2, last_b d0 d1 d2 d3 d4 d5 d6 h0 h1 h2 h3 h4 h5 h6 h7, last_c d0 d1 d2 d3 d4 d5 d6 h0 h1 h2 h3 h4 h5 h6 h7, ← d7, Nat.add_zero]
end Go.Proofs.Ytogifanooleppaa
