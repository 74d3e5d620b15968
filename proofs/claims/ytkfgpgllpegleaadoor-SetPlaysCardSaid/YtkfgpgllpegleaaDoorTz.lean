/- math/bits.TrailingZeros64: the number of the lowest bit that is set; its table stands in a variable of package math/bits. -/
import Derived.Test.YtkfgpgllpegleaaDoorMem
import Derived.Test.YtkfgpgllpegleaaDoorBits
import Derived.Lib.TrailingZeros
namespace Go.Proofs.YtkfgpgllpegleaaDoor
open Go.RowKit
set_option linter.unusedVariables false

/-- the table of math/bits stands in its variable -/
def TzTab (w : World) : Prop := ∀ j, j < 64 → w.cell? ⟨0, j, none⟩ = some (.int .u8 ((Lib.deBruijn64tab.getD j 0 : Nat) : Int))
theorem TzTab.below {w w' : World} {B : Nat} (h : TzTab w) (hb : Below B w w') (hB : w.heap.size ≤ B) : TzTab w' := fun j hj =>
  (hb.cell (p := ⟨0, j, none⟩) (Nat.lt_of_lt_of_le (World.block_lt_of_cell? _ _ (h j hj)) hB)).trans (h j hj)
theorem TzTab.drewN {w : World} (h : TzTab w) (k : Nat) : TzTab (w.drewN k) := h

theorem tz_key (x a : Nat) (hx : x < 18446744073709551616) (hx0 : x ≠ 0) (hlow : x &&& (18446744073709551616 - x) = a) :
    IntKind.u64.wrap (bits BinOp.and IntKind.u64 (x : Int) (IntKind.u64.wrap (-(x : Int))) * 285870213051353865) / 288230376151711744 = ((a * 285870213051353865 % 18446744073709551616 / 288230376151711744 : Nat) : Int) := by
  have e1 : IntKind.u64.wrap (-(x : Int)) = ((18446744073709551616 - x : Nat) : Int) := by rw [IntKind.wrap_u64]; omega
  rw [e1, u64_and x _ hx (by omega), hlow, IntKind.wrap_u64]
  omega

theorem tz_core (x k idx : Nat) (w : World) (hx0 : ((x : Int) == 0) = false)
    (key : IntKind.u64.wrap (bits BinOp.and IntKind.u64 (x : Int) (IntKind.u64.wrap (-(x : Int))) * 285870213051353865) / 288230376151711744 = (idx : Int))
    (hi : idx < 64) (hk : k < 64) (hcell : w.cell? ⟨0, idx, none⟩ = some (.int .u8 k)) :
    Calls Tryd.prog 27 #[.int .u64 x] w fun e w' => e = .returned (.int .i64 k) ∧ w = w' := by
  go_enter Tryd.func27, Tryd.ntmps27
  go_wp2_with (simp only [key])
  go_ret
  exact ⟨rfl, rfl⟩

/-- EVERY x that is not 0 -/
theorem tz_any (x : Nat) (w : World) (hx : x < 18446744073709551616) (h0 : x ≠ 0) (hT : TzTab w) :
    Calls Tryd.prog 27 #[.int .u64 x] w fun e w' => e = .returned (.int .i64 (Lib.ctz 64 x : Nat)) ∧ w = w' := by
  obtain ⟨hlow, hk⟩ := Lib.lowest_bit 64 x h0 hx
  obtain ⟨hi, htab⟩ := Lib.deBruijn64_at _ hk
  have hcell := hT _ hi
  rw [htab] at hcell
  exact tz_core x _ _ w (by simp; omega) (tz_key x _ hx h0 hlow) hi hk hcell

/-- the lowest bit, and what is left without it -/
theorem ctz_bit {x : Nat} (hx : x < 18446744073709551616) (h0 : x ≠ 0) :
    Lib.ctz 64 x < 64 ∧ x.testBit (Lib.ctz 64 x) = true ∧ (∀ j, j < Lib.ctz 64 x → x.testBit j = false) ∧
    (∀ j, (x &&& (x - 1)).testBit j = (decide (j ≠ Lib.ctz 64 x) && x.testBit j)) ∧ x &&& (x - 1) < x := by
  obtain ⟨m, hm, hk⟩ := Lib.ctzFrom_spec 64 x (by omega) hx
  have e : Lib.ctz 64 x = Lib.ctzFrom 64 x := by simp [Lib.ctz, h0]
  rw [e]
  generalize Lib.ctzFrom 64 x = c at hm hk
  have hp := Nat.two_pow_pos c
  have e0 : x = 2 ^ c * (2 * m + 1) + 0 := by rw [Nat.add_zero]; exact hm
  have e1 : x - 1 = 2 ^ c * (2 * m) + (2 ^ c - 1) := by rw [hm, Nat.mul_add]; omega
  have b0 : ∀ j, x.testBit j = if j < c then false else (2 * m + 1).testBit (j - c) := fun j => by
    rw [e0, Nat.testBit_two_pow_mul_add _ hp]; simp
  have b1 : ∀ j, (x - 1).testBit j = if j < c then true else (2 * m).testBit (j - c) := fun j => by
    rw [e1, Nat.testBit_two_pow_mul_add _ (by omega)]
    by_cases h : j < c
    · rw [if_pos h, if_pos h, Nat.testBit_two_pow_sub_one]; simpa using h
    · rw [if_neg h, if_neg h]
  refine ⟨hk, ?_, fun j hj => ?_, fun j => ?_, ?_⟩
  · rw [b0, if_neg (by omega), Nat.sub_self, Nat.testBit_zero]; simp
  · rw [b0, if_pos hj]
  · rw [Nat.testBit_and, b0, b1]
    by_cases h : j < c
    · rw [if_pos h, if_pos h]; simp
    · rw [if_neg h, if_neg h]
      by_cases h2 : j = c
      · subst h2
        rw [Nat.sub_self, Nat.testBit_zero, Nat.testBit_zero]
        simp
      · obtain ⟨i, hi⟩ : ∃ i, j - c = i + 1 := ⟨j - c - 1, by omega⟩
        rw [hi, Nat.testBit_succ, Nat.testBit_succ, show (2 * m + 1) / 2 = m by omega, show 2 * m / 2 = m by omega]
        simp [h2]
  · have := Nat.and_le_right (n := x) (m := x - 1)
    omega
end Go.Proofs.YtkfgpgllpegleaaDoor
