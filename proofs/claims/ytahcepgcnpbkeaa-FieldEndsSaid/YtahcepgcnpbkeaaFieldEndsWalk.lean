/- The walk of the law FieldEnds: it answers true for every input. -/
import Derived.Test.YtahcepgcnpbkeaaFieldTellsWalk
import Derived.Test.YtahcepgcnpbkeaaFieldMath
namespace Go.Proofs.Ytahcepgcnpbkeaa
open Go.RowKit
set_option linter.unusedVariables false

set_option maxHeartbeats 1000000 in
theorem fieldEnds.into (x v : Nat) (a n : Int) (w : World) (hx : x < 18446744073709551616) (hv : v < 18446744073709551616) (ha : -9223372036854775808 ≤ a ∧ a ≤ 9223372036854775807) (hn : -9223372036854775808 ≤ n ∧ n ≤ 9223372036854775807) :
    Calls Try.prog 9 #[.int .u64 x, .int .u64 v, .int .i64 a, .int .i64 n] w fun e w' => e = .returned (.bool true) ∧ ∃ k, w' = w.drewN k := by
  have c1 := get_eq x 0 64 x hx (by omega) (by omega) (fm_all hx)
  have c2 := put_eq x v 0 64 v hx hv (by omega) (by omega) (fm_putAll hx hv)
  have c3 : ∀ w, Calls Try.prog 22 #[.int .u64 x, .int .i64 64, .int .i64 n] w fun e w' => e = .returned (.int .u64 0) ∧ ∃ k, w' = w.drewN k := get_eq x 64 n 0 hx (by omega) hn (fm_none (cutN_64 n))
  have c4 := put_eq x v 64 n x hx hv (by omega) hn (fm_putNone hx (cutN_64 n))
  have c5 : ∀ w, Calls Try.prog 22 #[.int .u64 x, .int .i64 a, .int .i64 0] w fun e w' => e = .returned (.int .u64 0) ∧ ∃ k, w' = w.drewN k := get_eq x a 0 0 hx ha (by omega) (fm_none (cutN_0 a))
  have c6 := put_eq x v a 0 x hx hv ha (by omega) (fm_putNone hx (cutN_0 a))
  have c7 := fits_eq v 64 true hv (by omega) (fm_fits64 hv)
  have c8 : ∀ w, Calls Try.prog 26 #[.int .u64 0, .int .i64 0] w fun e w' => e = .returned (.bool true) ∧ ∃ k, w' = w.drewN k := fits_eq 0 0 true (by omega) (by omega) (fm_fits0 0)
  have C1 := Lib.hid c1
  have C2 := Lib.hid c2
  have C3 := Lib.hid c3
  have C4 := Lib.hid c4
  have C5 := Lib.hid c5
  have C6 := Lib.hid c6
  have C7 := Lib.hid c7
  have C8 := Lib.hid c8
  clear c1 c2 c3 c4 c5 c6 c7 c8
  have c9 : ∀ w, Calls Try.prog 26 #[.int .u64 v, .int .i64 0] w fun e w' => e = .returned (.bool (decide (v = 0))) ∧ ∃ k, w' = w.drewN k := fits_eq v 0 (decide (v = 0)) hv (by omega) (fm_fits0 v)
  have C9 := Lib.hid c9
  clear c9
  have z : (decide (v = 0) == ((v : Int) == 0)) = true := by by_cases h : v = 0 <;> simp [h]
  have z' : (decide (v = 0) == (v == 0)) = true := by by_cases h : v = 0 <;> simp [h]
  go_enter Try.func9, Try.ntmps9
  go_wp2_with (first | (go_at_call 21; refine (alive1 _).mono ?_; rintro e w' ⟨rfl, k, rfl⟩) | ((with_reducible refine (C1.out _).mono ?_); rintro e w' ⟨rfl, k, rfl⟩) | ((with_reducible refine (C2.out _).mono ?_); rintro e w' ⟨rfl, k, rfl⟩) | ((with_reducible refine (C3.out _).mono ?_); rintro e w' ⟨rfl, k, rfl⟩) | ((with_reducible refine (C4.out _).mono ?_); rintro e w' ⟨rfl, k, rfl⟩) | ((with_reducible refine (C5.out _).mono ?_); rintro e w' ⟨rfl, k, rfl⟩) | ((with_reducible refine (C6.out _).mono ?_); rintro e w' ⟨rfl, k, rfl⟩) | ((with_reducible refine (C7.out _).mono ?_); rintro e w' ⟨rfl, k, rfl⟩) | ((with_reducible refine (C8.out _).mono ?_); rintro e w' ⟨rfl, k, rfl⟩) | ((with_reducible refine (C9.out _).mono ?_); rintro e w' ⟨rfl, k, rfl⟩))
  go_ret
  refine ⟨ret_bool ?_, _, rfl⟩
  simp

theorem fieldEnds.walk (a0 : Int) (a1 : Int) (a2 : Int) (a3 : Int) (w : World) (w0 : (Lit.int .u64 a0).wf = true) (w1 : (Lit.int .u64 a1).wf = true) (w2 : (Lit.int .i64 a2).wf = true) (w3 : (Lit.int .i64 a3).wf = true) :
    Calls Try.prog 9 #[.int .u64 a0, .int .u64 a1, .int .i64 a2, .int .i64 a3] w fun e w' => e = .returned (.bool true) ∧ Below w.heap.size w w' := by
  have b0 := bounds_u64 w0
  have b1 := bounds_u64 w1
  obtain ⟨x, rfl⟩ := Int.eq_ofNat_of_zero_le b0.1
  obtain ⟨v, rfl⟩ := Int.eq_ofNat_of_zero_le b1.1
  exact (fieldEnds.into x v a2 a3 w (by omega) (by omega) (bounds_i64 w2) (bounds_i64 w3)).mono fun _ _ ⟨he, k, hk⟩ => ⟨he, by rw [hk]; exact below_drewN (Below.refl _ _) k⟩
end Go.Proofs.Ytahcepgcnpbkeaa
