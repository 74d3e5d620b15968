/- The walk of the law FieldTells: it answers true for every input. -/
import Derived.Test.YtahcepgcnpbkeaaField
import Derived.Below
import Derived.WalkSmall
namespace Go.Proofs.Ytahcepgcnpbkeaa
open Go.RowKit
set_option linter.unusedVariables false

theorem alive1 (w : World) : Calls Try.prog 21 #[] w fun e w' => e = .returned (.bool true) ∧ ∃ k, w' = w.drewN k := by
  have g : GetS 171 4 4 = 10 := by decide +kernel
  have p : PutS 0 4 4 10 = 160 := by decide +kernel
  have f : FitS 15 4 = true := by decide +kernel
  have c1 := fun w => (get_any 171 4 4 w (by omega) (by omega) (by omega)).mono (R' := fun e w' => e = .returned (.int .u64 10) ∧ ∃ k, w' = w.drewN k) fun _ _ h => ⟨h.1.trans (by rw [g]; rfl), h.2⟩
  have c2 := fun w => (put_any 0 10 4 4 w (by omega) (by omega) (by omega) (by omega)).mono (R' := fun e w' => e = .returned (.int .u64 160) ∧ ∃ k, w' = w.drewN k) fun _ _ h => ⟨h.1.trans (by rw [p]; rfl), h.2⟩
  have c3 := fun w => (fits_any 15 4 w (by omega) (by omega)).mono (R' := fun e w' => e = .returned (.bool true) ∧ ∃ k, w' = w.drewN k) fun _ _ h => ⟨h.1.trans (by rw [f]), h.2⟩
  clear g p f
  have C1 := Lib.hid c1
  have C2 := Lib.hid c2
  have C3 := Lib.hid c3
  clear c1 c2 c3
  go_enter Try.func21, Try.ntmps21
  go_wp2_with (first | (go_at_call 22; refine (C1.out _).mono ?_; rintro e w' ⟨rfl, k, rfl⟩) | (go_at_call 24; refine (C2.out _).mono ?_; rintro e w' ⟨rfl, k, rfl⟩) | (go_at_call 26; refine (C3.out _).mono ?_; rintro e w' ⟨rfl, k, rfl⟩))
  go_ret
  exact ⟨rfl, _, rfl⟩

theorem fieldTells.walk' (x v : Nat) (a1 : Int) (a2 : Int) (w : World) (hx : x < 18446744073709551616) (hv : v < 18446744073709551616) (h1 : -9223372036854775808 ≤ a1 ∧ a1 ≤ 9223372036854775807) (h2 : -9223372036854775808 ≤ a2 ∧ a2 ≤ 9223372036854775807) :
    Calls Try.prog 6 #[.int .u64 x, .int .i64 a1, .int .i64 a2, .int .u64 v] w fun e w' => e = .returned (.bool true) ∧ ∃ k, w' = w.drewN k := by
  go_enter Try.func6, Try.ntmps6
  go_wp2_with (first | (go_at_call 21; refine (alive1 _).mono ?_; rintro e w' ⟨rfl, k, rfl⟩) | (go_at_call 22; refine (get_any x a1 a2 _ hx h1 h2).mono ?_; rintro e w' ⟨rfl, k, rfl⟩) | (go_at_call 23; refine (getRef_any x a1 a2 _ hx).mono ?_; rintro e w' ⟨rfl, k, rfl⟩) | (go_at_call 24; refine (put_any x v a1 a2 _ hx hv h1 h2).mono ?_; rintro e w' ⟨rfl, k, rfl⟩) | (go_at_call 25; refine (putRef_any x v a1 a2 _ hx hv).mono ?_; rintro e w' ⟨rfl, k, rfl⟩) | (go_at_call 26; refine (fits_any v a2 _ hv h2).mono ?_; rintro e w' ⟨rfl, k, rfl⟩) | (go_at_call 27; refine (fitsRef_any v a2 _ hv).mono ?_; rintro e w' ⟨rfl, k, rfl⟩))
  go_ret
  exact ⟨rfl, _, rfl⟩
theorem fieldTells.walk (a0 : Int) (a1 : Int) (a2 : Int) (a3 : Int) (w : World) (w0 : (Lit.int .u64 a0).wf = true) (w1 : (Lit.int .i64 a1).wf = true) (w2 : (Lit.int .i64 a2).wf = true) (w3 : (Lit.int .u64 a3).wf = true) :
    Calls Try.prog 6 #[.int .u64 a0, .int .i64 a1, .int .i64 a2, .int .u64 a3] w fun e w' => e = .returned (.bool true) ∧ Below w.heap.size w w' := by
  have b0 := bounds_u64 w0
  have b3 := bounds_u64 w3
  obtain ⟨x, rfl⟩ := Int.eq_ofNat_of_zero_le b0.1
  obtain ⟨v, rfl⟩ := Int.eq_ofNat_of_zero_le b3.1
  exact (fieldTells.walk' x v a1 a2 w (by omega) (by omega) (bounds_i64 w1) (bounds_i64 w2)).mono fun _ _ ⟨he, k, hk⟩ => ⟨he, by rw [hk]; exact below_drewN (Below.refl _ _) k⟩
end Go.Proofs.Ytahcepgcnpbkeaa
