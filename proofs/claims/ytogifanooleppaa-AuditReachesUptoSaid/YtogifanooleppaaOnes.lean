/- math/bits.OnesCount64 computes how many bits are set. -/
import Derived.Test.YtogifanooleppaaChecked
import Derived.WalkKit
import Derived.WalkLawsBesides
import Derived.Lib.Hide
import Derived.Test.YtogifanooleppaaPop
namespace Go.Proofs.Ytogifanooleppaa
open Go.RowKit

theorem ones_1 (x : Nat) (hx : x < 18446744073709551616) : IntKind.u64.wrap (bits .and .u64 ((x : Int) / 2) 6148914691236517205 + bits .and .u64 (x : Int) 6148914691236517205) = ((stepP 1 32 x : Nat) : Int) := by
  have h := step_lt (b := 1) (Nat.le_refl _) 32 x
  have e : (x : Int) / (2 : Int) = (((x >>> 1) : Nat) : Int) := by have h2 : x >>> 1 = x / 2 := (by rw [Nat.shiftRight_eq_div_pow]); rw [h2]; omega
  have a1 := u64_and (x >>> 1) 6148914691236517205 (shr_lt hx 1) (by decide)
  have a2 := u64_and x 6148914691236517205 hx (by decide)
  have r : rep (2 * 1) (2 ^ 1 - 1) 32 = 6148914691236517205 := by decide +kernel
  have d : ((x >>> 1) &&& 6148914691236517205) + (x &&& 6148914691236517205) = stepP 1 32 x := by unfold stepP; rw [r]
  have c : ((6148914691236517205 : Nat) : Int) = 6148914691236517205 := rfl
  rw [c] at a1 a2
  rw [e, a1, a2, ← Int.natCast_add, d]
  exact wrap_u64 _ (by simpa using h)
theorem ones_2 (x : Nat) (hx : x < 18446744073709551616) : IntKind.u64.wrap (bits .and .u64 ((x : Int) / 4) 3689348814741910323 + bits .and .u64 (x : Int) 3689348814741910323) = ((stepP 2 16 x : Nat) : Int) := by
  have h := step_lt (b := 2) (by decide) 16 x
  have e : (x : Int) / (4 : Int) = (((x >>> 2) : Nat) : Int) := by have h2 : x >>> 2 = x / 4 := (by rw [Nat.shiftRight_eq_div_pow]); rw [h2]; omega
  have a1 := u64_and (x >>> 2) 3689348814741910323 (shr_lt hx 2) (by decide)
  have a2 := u64_and x 3689348814741910323 hx (by decide)
  have r : rep (2 * 2) (2 ^ 2 - 1) 16 = 3689348814741910323 := by decide +kernel
  have d : ((x >>> 2) &&& 3689348814741910323) + (x &&& 3689348814741910323) = stepP 2 16 x := by unfold stepP; rw [r]
  have c : ((3689348814741910323 : Nat) : Int) = 3689348814741910323 := rfl
  rw [c] at a1 a2
  rw [e, a1, a2, ← Int.natCast_add, d]
  exact wrap_u64 _ (by simpa using h)
theorem leG_top (b c : Nat) (_hc : c < 2 ^ b) : ∀ k y, leG b c y (k + 1) → y < 2 ^ (b * (k + 1)) → y < (c + 1) * 2 ^ (b * k) := by
  intro k
  induction k with
  | zero =>
    intro y h hy
    have h1 := h.1
    rw [Nat.mul_one] at hy
    rw [Nat.mod_eq_of_lt (by simpa using hy)] at h1
    simp; omega
  | succ k ih =>
    intro y h hy
    have h2 : y / 2 ^ b < 2 ^ (b * (k + 1)) := Nat.div_lt_of_lt_mul (by rw [← Nat.pow_add]; rw [Nat.mul_succ b (k + 1), Nat.add_comm] at hy; exact hy)
    have h3 := ih _ h.2 h2
    have h4 := Nat.div_add_mod y (2 ^ b)
    have h5 := Nat.mod_lt y (Nat.two_pow_pos b)
    have h6 : 2 ^ b * (y / 2 ^ b) + 2 ^ b ≤ 2 ^ b * ((c + 1) * 2 ^ (b * k)) := by rw [← Nat.mul_succ]; exact Nat.mul_le_mul_left _ h3
    have h7 : 2 ^ b * ((c + 1) * 2 ^ (b * k)) = (c + 1) * 2 ^ (b * (k + 1)) := by rw [Nat.mul_succ b k, Nat.pow_add]; rw [Nat.mul_left_comm, Nat.mul_comm (2 ^ b)]
    omega
theorem ones_3 (x : Nat) (h : leG 4 4 x 16) (hx : x < 2 ^ 64) : bits .and .u64 (IntKind.u64.wrap ((x : Int) / 16 + (x : Int))) 1085102592571150095 = ((stepP 4 8 x : Nat) : Int) := by
  have hb := leG_top 4 4 (by decide) 15 x h (by simpa using hx)
  have e : (x : Int) / (16 : Int) = (((x >>> 4) : Nat) : Int) := by have h2 : x >>> 4 = x / 16 := (by rw [Nat.shiftRight_eq_div_pow]); rw [h2]; omega
  have r : rep 8 15 8 = 1085102592571150095 := by decide +kernel
  have d := step3 8 x h (by simpa using hx)
  rw [r] at d
  have hs : (x >>> 4) + x < 18446744073709551616 := by
    rw [Nat.shiftRight_eq_div_pow]
    have : (2 : Nat) ^ 4 = 16 := by decide
    have : (4 + 1) * 2 ^ (4 * 15) = 5764607523034234880 := by decide
    omega
  have a1 := u64_and ((x >>> 4) + x) 1085102592571150095 hs (by decide)
  have c : ((1085102592571150095 : Nat) : Int) = 1085102592571150095 := rfl
  rw [c, d] at a1
  rw [e, ← Int.natCast_add, wrap_u64 _ hs]
  exact a1
theorem ones_4 (y : Nat) (hy : y < 1152921504606846976) : IntKind.u64.wrap ((y : Int) + (y : Int) / 256) = ((y + y / 256 : Nat) : Int) ∧ IntKind.u64.wrap ((y : Int) + (y : Int) / 65536) = ((y + y / 65536 : Nat) : Int) ∧ IntKind.u64.wrap ((y : Int) + (y : Int) / 4294967296) = ((y + y / 4294967296 : Nat) : Int) := by
  refine ⟨?_, ?_, ?_⟩ <;> (rw [IntKind.wrap_u64]; omega)
theorem ones_5 (z : Nat) (hz : z < 9223372036854775808) : bits .and .i64 (wrap64 (z : Int)) 127 = ((z % 128 : Nat) : Int) := by
  have e : wrap64 (z : Int) = z := by unfold wrap64; omega
  rw [e]
  have hofz : (BitVec.ofInt 64 (z : Int)).toNat = z := ofInt_u64 z (by omega)
  have hof7 : (BitVec.ofInt 64 (127 : Int)).toNat = 127 := by decide
  show IntKind.i64.wrap ((BitVec.ofInt 64 (z : Int) &&& BitVec.ofInt 64 (127 : Int)).toNat : Int) = _
  rw [BitVec.toNat_and, hofz, hof7, show (127 : Nat) = 2 ^ 7 - 1 by decide, Nat.and_two_pow_sub_one_eq_mod, IntKind.wrap_i64]
  have : (2 : Nat) ^ 7 = 128 := by decide
  omega

theorem ones_any (x : Nat) (w : World) (hx : x < 18446744073709551616) : Calls Try.prog 70 #[.int .u64 x] w fun e w' => e = .returned (.int .i64 (pop x 64 : Nat)) ∧ w = w' := by
  have p64 : (2 : Nat) ^ 64 = 18446744073709551616 := by decide
  have l1 : stepP 1 32 x < 18446744073709551616 := by have := step_lt (b := 1) (Nat.le_refl _) 32 x; simpa using this
  have l2 : stepP 2 16 (stepP 1 32 x) < 2 ^ 64 := by have := step_lt (b := 2) (by decide) 16 (stepP 1 32 x); simpa using this
  have l3 : stepP 4 8 (stepP 2 16 (stepP 1 32 x)) < 2 ^ 64 := by have := step_lt (b := 4) (by decide) 8 (stepP 2 16 (stepP 1 32 x)); simpa using this
  have g1 : leG 2 2 (stepP 1 32 x) 32 := step_le (b := 1) (c := 1) (Nat.le_refl _) 32 x (leG_one x 64)
  have g2 : leG 4 4 (stepP 2 16 (stepP 1 32 x)) 16 := step_le (b := 2) (c := 2) (by decide) 16 _ g1
  have g3 : leG 8 8 (stepP 4 8 (stepP 2 16 (stepP 1 32 x))) 8 := step_le (b := 4) (c := 4) (by decide) 8 _ g2
  have s1 : sumG 2 (stepP 1 32 x) 32 = pop x 64 := (step_sum (b := 1) (Nat.le_refl _) 32 x).trans (sumG_one x 64)
  have s2 : sumG 4 (stepP 2 16 (stepP 1 32 x)) 16 = pop x 64 := (step_sum (b := 2) (by decide) 16 _).trans s1
  have s3 : sumG 8 (stepP 4 8 (stepP 2 16 (stepP 1 32 x))) 8 = pop x 64 := (step_sum (b := 4) (by decide) 8 _).trans s2
  have t3 := leG_top 8 8 (by decide) 7 _ g3 (by simpa using l3)
  have t4 : (8 + 1) * 2 ^ (8 * 7) = 648518346341351424 := by decide
  have E1 := Lib.hid (ones_1 x hx)
  have E2 := Lib.hid (ones_2 _ l1)
  have E3 := Lib.hid (ones_3 _ g2 l2)
  have L := Lib.hid (last3 _ g3 l3)
  have S3 := Lib.hid s3
  have T3 : Hid (stepP 4 8 (stepP 2 16 (stepP 1 32 x)) < 648518346341351424) := by rw [← t4]; exact t3
  clear p64 l1 l2 l3 g1 g2 g3 s1 s2 s3 t3 t4
  go_enter Try.func70, Try.ntmps70
  go_wp2
  go_ret
  refine ⟨ret_int ?_, rfl⟩
  have T := T3.out
  rw [E1.out, E2.out, E3.out, ← S3.out, ← L.out]
  generalize stepP 4 8 (stepP 2 16 (stepP 1 32 x)) = y at T
  rw [(ones_4 y (by omega)).1, (ones_4 (y + y / 256) (by omega)).2.1, (ones_4 (y + y / 256 + (y + y / 256) / 65536) (by omega)).2.2, ones_5 _ (by omega)]
end Go.Proofs.Ytogifanooleppaa
