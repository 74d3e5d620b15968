/- The walk of the law FieldKeeps: it answers true for every input. -/
import Derived.Test.YtahcepgcnpbkeaaFieldTellsWalk
import Derived.Test.YtahcepgcnpbkeaaFieldMath
namespace Go.Proofs.Ytahcepgcnpbkeaa
open Go.RowKit
set_option linter.unusedVariables false

def InK (a n b : Int) : Prop := 0 ≤ a ∧ 0 ≤ n ∧ a + n ≤ 64 ∧ 0 ≤ b ∧ b ≤ 63

set_option maxHeartbeats 1000000 in
theorem fieldKeeps.out (x v : Nat) (a n b : Int) (w : World) (h1 : -9223372036854775808 ≤ a ∧ a ≤ 9223372036854775807) (h2 : -9223372036854775808 ≤ n ∧ n ≤ 9223372036854775807)
    (h4 : -9223372036854775808 ≤ b ∧ b ≤ 9223372036854775807) (hd : ¬ (0 ≤ a ∧ 0 ≤ n ∧ a + n ≤ 64 ∧ 0 ≤ b ∧ b ≤ 63)) :
    Calls Try.prog 7 #[.int .u64 x, .int .i64 a, .int .i64 n, .int .u64 v, .int .i64 b] w fun e w' => e = .returned (.bool true) ∧ ∃ k, w' = w.drewN k := by
  go_enter Try.func7, Try.ntmps7
  go_wp2_with (first | (go_at_call 21; refine (alive1 _).mono ?_; rintro e w' ⟨rfl, k, rfl⟩))
  all_goals
    go_ret
    exact ⟨rfl, _, rfl⟩

set_option maxHeartbeats 1000000 in
theorem fieldKeeps.beside (x v : Nat) (a n b : Int) (w : World) (hx : x < 18446744073709551616) (hv : v < 18446744073709551616) (ha : 0 ≤ a) (hn : 0 ≤ n) (h : a + n ≤ 64) (hb0 : 0 ≤ b) (hb : b ≤ 63)
    (ho : b < a ∨ a + n ≤ b) :
    Calls Try.prog 7 #[.int .u64 x, .int .i64 a, .int .i64 n, .int .u64 v, .int .i64 b] w fun e w' => e = .returned (.bool true) ∧ ∃ k, w' = w.drewN k := by
  have hX := PutS_lt hx a n v
  have c1 := put_any x v a n
  have c2 := get_eq (PutS x a n v) b 1 _ hX (by omega) (by omega) (fm_beside hx ha hn h hb0 hb ho)
  have c3 := get_any x b 1
  have C1 := Lib.hid c1
  have C2 := Lib.hid c2
  have C3 := Lib.hid c3
  clear c1 c2 c3
  by_cases hf : FitS v n = true
  · have c4 := get_eq (PutS x a n v) a n v hX (by omega) (by omega) (fm_got hx ha hn h hf)
    have c5 := fits_eq v n true hv (by omega) hf
    have C4 := Lib.hid c4
    have C5 := Lib.hid c5
    clear c4 c5 hf hX
    rcases ho with ho | ho
    all_goals
      go_enter Try.func7, Try.ntmps7
      go_wp2_with (first | (go_at_call 21; refine (alive1 _).mono ?_; rintro e w' ⟨rfl, k, rfl⟩) | ((with_reducible refine (C1.out _ hx hv (by omega) (by omega)).mono ?_); rintro e w' ⟨rfl, k, rfl⟩) | ((with_reducible refine (C4.out _).mono ?_); rintro e w' ⟨rfl, k, rfl⟩) | ((with_reducible refine (C5.out _).mono ?_); rintro e w' ⟨rfl, k, rfl⟩) | ((with_reducible refine (C2.out _).mono ?_); rintro e w' ⟨rfl, k, rfl⟩) | ((with_reducible refine (C3.out _ hx (by omega) (by omega)).mono ?_); rintro e w' ⟨rfl, k, rfl⟩))
      go_ret
      exact ⟨rfl, _, rfl⟩
  · have c4 := get_any (PutS x a n v) a n
    have c5 := fits_eq v n false hv (by omega) (by simpa using hf)
    have c6 := fits_eq (GetS (PutS x a n v) a n) n true (GetS_lt hX _ _) (by omega) (fm_fits ha hn h)
    have C4 := Lib.hid c4
    have C5 := Lib.hid c5
    have C6 := Lib.hid c6
    clear c4 c5 c6 hf
    rcases ho with ho | ho
    all_goals
      go_enter Try.func7, Try.ntmps7
      go_wp2_with (first | (go_at_call 21; refine (alive1 _).mono ?_; rintro e w' ⟨rfl, k, rfl⟩) | ((with_reducible refine (C1.out _ hx hv (by omega) (by omega)).mono ?_); rintro e w' ⟨rfl, k, rfl⟩) | ((with_reducible refine (C4.out _ hX (by omega) (by omega)).mono ?_); rintro e w' ⟨rfl, k, rfl⟩) | ((with_reducible refine (C6.out _).mono ?_); rintro e w' ⟨rfl, k, rfl⟩) | ((with_reducible refine (C5.out _).mono ?_); rintro e w' ⟨rfl, k, rfl⟩) | ((with_reducible refine (C2.out _).mono ?_); rintro e w' ⟨rfl, k, rfl⟩) | ((with_reducible refine (C3.out _ hx (by omega) (by omega)).mono ?_); rintro e w' ⟨rfl, k, rfl⟩))
      go_ret
      exact ⟨rfl, _, rfl⟩

set_option maxHeartbeats 1000000 in
theorem fieldKeeps.inside (x v : Nat) (a n b : Int) (w : World) (hx : x < 18446744073709551616) (hv : v < 18446744073709551616) (ha : 0 ≤ a) (hn : 0 ≤ n) (h : a + n ≤ 64) (h1 : a ≤ b) (h2 : b < a + n) :
    Calls Try.prog 7 #[.int .u64 x, .int .i64 a, .int .i64 n, .int .u64 v, .int .i64 b] w fun e w' => e = .returned (.bool true) ∧ ∃ k, w' = w.drewN k := by
  have hX := PutS_lt hx a n v
  have c1 := put_any x v a n
  have c2 := get_eq (PutS x a n v) b 1 _ hX (by omega) (by omega) (fm_inside hx ha hn h h1 h2)
  have c3 := get_any v (b - a) 1
  have c4 := get_any (PutS x a n v) a n
  have c5 := get_any x a n
  have c6 := put_eq (PutS x a n v) (GetS x a n) a n x hX (GetS_lt hx _ _) (by omega) (by omega) (fm_back hx ha hn h)
  have C1 := Lib.hid c1
  have C2 := Lib.hid c2
  have C3 := Lib.hid c3
  have C4 := Lib.hid c4
  have C5 := Lib.hid c5
  have C6 := Lib.hid c6
  clear c1 c2 c3 c4 c5 c6
  go_enter Try.func7, Try.ntmps7
  go_wp2_with (first | (go_at_call 21; refine (alive1 _).mono ?_; rintro e w' ⟨rfl, k, rfl⟩) | ((with_reducible refine (C1.out _ hx hv (by omega) (by omega)).mono ?_); rintro e w' ⟨rfl, k, rfl⟩) | ((with_reducible refine (C4.out _ hX (by omega) (by omega)).mono ?_); rintro e w' ⟨rfl, k, rfl⟩) | ((with_reducible refine (C2.out _).mono ?_); rintro e w' ⟨rfl, k, rfl⟩) | ((with_reducible refine (C3.out _ hv (by omega) (by omega)).mono ?_); rintro e w' ⟨rfl, k, rfl⟩) | ((with_reducible refine (C5.out _ hx (by omega) (by omega)).mono ?_); rintro e w' ⟨rfl, k, rfl⟩) | ((with_reducible refine (C6.out _).mono ?_); rintro e w' ⟨rfl, k, rfl⟩))
  go_ret
  exact ⟨rfl, _, rfl⟩

theorem fieldKeeps.walk (a0 : Int) (a1 : Int) (a2 : Int) (a3 : Int) (a4 : Int) (w : World) (w0 : (Lit.int .u64 a0).wf = true) (w1 : (Lit.int .i64 a1).wf = true) (w2 : (Lit.int .i64 a2).wf = true) (w3 : (Lit.int .u64 a3).wf = true) (w4 : (Lit.int .i64 a4).wf = true) :
    Calls Try.prog 7 #[.int .u64 a0, .int .i64 a1, .int .i64 a2, .int .u64 a3, .int .i64 a4] w fun e w' => e = .returned (.bool true) ∧ Below w.heap.size w w' := by
  have b0 := bounds_u64 w0
  have b3 := bounds_u64 w3
  have b1 := bounds_i64 w1
  have b2 := bounds_i64 w2
  have b4 := bounds_i64 w4
  obtain ⟨x, rfl⟩ := Int.eq_ofNat_of_zero_le b0.1
  obtain ⟨v, rfl⟩ := Int.eq_ofNat_of_zero_le b3.1
  have key : Calls Try.prog 7 #[.int .u64 x, .int .i64 a1, .int .i64 a2, .int .u64 v, .int .i64 a4] w fun e w' => e = .returned (.bool true) ∧ ∃ k, w' = w.drewN k := by
    by_cases hd : 0 ≤ a1 ∧ 0 ≤ a2 ∧ a1 + a2 ≤ 64 ∧ 0 ≤ a4 ∧ a4 ≤ 63
    · obtain ⟨d1, d2, d3, d4, d5⟩ := hd
      by_cases ho : a4 < a1 ∨ a1 + a2 ≤ a4
      · exact fieldKeeps.beside x v a1 a2 a4 w (by omega) (by omega) d1 d2 d3 d4 d5 ho
      · exact fieldKeeps.inside x v a1 a2 a4 w (by omega) (by omega) d1 d2 d3 (by omega) (by omega)
    · exact fieldKeeps.out x v a1 a2 a4 w b1 b2 b4 hd
  exact key.mono fun _ _ ⟨he, k, hk⟩ => ⟨he, by rw [hk]; exact below_drewN (Below.refl _ _) k⟩
end Go.Proofs.Ytahcepgcnpbkeaa
