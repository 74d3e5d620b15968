/- The reference's SizeOf, Blocks and PagesOf compute what package sizes computes. -/
import Derived.Test.YtfiddodlpppdhaaSizes
import Derived.Test.YtfiddodlpppdhaaRef
namespace Go.Proofs.Ytfiddodlpppdhaa
open Go.RowKit
set_option linter.unusedVariables false

/-- a number cut to 1 to 2^40 -/
def cut40 (n : Int) : Int := if n < 1 then 1 else if 1099511627776 < n then 1099511627776 else n
theorem cutRef_40 (n : Int) (w : World) : Calls Try.prog 23 #[.int .i64 n, .int .i64 1, .int .i64 1099511627776] w fun e w' => e = .returned (.int .i64 (cut40 n)) ∧ w = w' := cut_ref n 1 1099511627776 w
theorem pagesRef_any (n : Int) (w : World) : Calls Try.prog 24 #[.int .i64 n] w fun e w' => e = .returned (.int .i64 (pagesOf n)) ∧ w = w' := by
  have hb : 1 ≤ cut40 n ∧ cut40 n ≤ 1099511627776 := by unfold cut40; omega
  have he : (cut40 n + 64) / 64 = pagesOf n := by unfold cut40 pagesOf; omega
  have HE := Lib.hid he
  clear he
  go_enter Try.func24, Try.ntmps24
  go_wp2_with (go_at_call 23; refine (cutRef_40 _ _).mono ?_; rintro e w' ⟨rfl, rfl⟩)
  go_ret
  refine ⟨ret_int ?_, rfl⟩
  rw [← HE.out]
  omega
theorem ofRef_big (n m : Int) (w : World) (h1 : 2 ≤ n) (hm : cut40 m = n) : Calls Try.prog 11 #[.int .i64 m] w fun e w' => e = .returned (.tuple #[.int .i64 (clsOf n), .int .i64 (szOf n)]) ∧ w = w' := by
  have hp := pagesOf_bd n
  go_enter Try.func11, Try.ntmps11
  have h40 : n ≤ 1099511627776 := by rw [← hm]; unfold cut40; omega
  have HM := Lib.hid hm
  clear hm
  go_wp2_with fail
  refine (cutRef_40 m _).mono ?_
  rw [HM.out]
  rintro e w' ⟨rfl, rfl⟩
  go_wp2
  go_loop [4, 5] (fun s i => (i = .int .i64 0 ∧ s = .int .i64 2) ∨ (2 ≤ n ∧ i = .int .i64 1 ∧ s = .int .i64 4) ∨ (4 ≤ n ∧ i = .int .i64 2 ∧ s = .int .i64 8) ∨ (8 ≤ n ∧ i = .int .i64 3 ∧ s = .int .i64 16) ∨ (16 ≤ n ∧ i = .int .i64 4 ∧ s = .int .i64 32) ∨ (32 ≤ n ∧ i = .int .i64 5 ∧ s = .int .i64 64)) (fun _ i => 6 - (intOf i).toNat)
  case atStart => exact .inl ⟨rfl, rfl⟩
  case round =>
    rcases hrel with ⟨rfl, rfl⟩ | ⟨hn, rfl, rfl⟩ | ⟨hn, rfl, rfl⟩ | ⟨hn, rfl, rfl⟩ | ⟨hn, rfl, rfl⟩ | ⟨hn, rfl, rfl⟩
    · go_wp2
      go_round
      case rel => right; left; exact ⟨by omega, rfl, rfl⟩
      case measure => simp [intOf]
    · by_cases h : n < 4
      · go_wp2
        go_ret2
        refine ⟨ret_ii ?_ ?_, rfl⟩ <;> (simp only [clsOf, szOf]; omega)
      · go_wp2
        go_round
        case rel => right; right; left; exact ⟨by omega, rfl, rfl⟩
        case measure => simp [intOf]
    · by_cases h : n < 8
      · go_wp2
        go_ret2
        refine ⟨ret_ii ?_ ?_, rfl⟩ <;> (simp only [clsOf, szOf]; omega)
      · go_wp2
        go_round
        case rel => right; right; right; left; exact ⟨by omega, rfl, rfl⟩
        case measure => simp [intOf]
    · by_cases h : n < 16
      · go_wp2
        go_ret2
        refine ⟨ret_ii ?_ ?_, rfl⟩ <;> (simp only [clsOf, szOf]; omega)
      · go_wp2
        go_round
        case rel => right; right; right; right; left; exact ⟨by omega, rfl, rfl⟩
        case measure => simp [intOf]
    · by_cases h : n < 32
      · go_wp2
        go_ret2
        refine ⟨ret_ii ?_ ?_, rfl⟩ <;> (simp only [clsOf, szOf]; omega)
      · go_wp2
        go_round
        case rel => right; right; right; right; right; exact ⟨by omega, rfl, rfl⟩
        case measure => simp [intOf]
    · go_wp2_with (go_at_call 24; refine (pagesRef_any _ _).mono ?_; rintro e w' ⟨rfl, rfl⟩)
      go_ret2
      refine ⟨ret_ii ?_ ?_, rfl⟩ <;> (simp only [clsOf, szOf]; omega)
theorem ofRef_small (m : Int) (w : World) (h1 : m < 2) : Calls Try.prog 11 #[.int .i64 m] w fun e w' => e = .returned (.tuple #[.int .i64 (clsOf m), .int .i64 (szOf m)]) ∧ w = w' := by
  have hm : cut40 m = 1 := by unfold cut40; omega
  have HM := Lib.hid hm
  clear hm
  go_enter Try.func11, Try.ntmps11
  go_wp2_with fail
  refine (cutRef_40 m _).mono ?_
  rw [HM.out]
  rintro e w' ⟨rfl, rfl⟩
  go_wp2
  go_loop [4, 5] (fun s i => i = .int .i64 0 ∧ s = .int .i64 2) (fun _ i => 6 - (intOf i).toNat)
  case atStart => exact ⟨rfl, rfl⟩
  case round =>
    rcases hrel with ⟨rfl, rfl⟩
    go_wp2
    go_ret2
    refine ⟨ret_ii ?_ ?_, rfl⟩ <;> (simp only [clsOf, szOf]; omega)
theorem ofRef_any (n : Int) (w : World) : Calls Try.prog 11 #[.int .i64 n] w fun e w' => e = .returned (.tuple #[.int .i64 (clsOf n), .int .i64 (szOf n)]) ∧ w = w' := by
  by_cases h : n < 2
  · exact ofRef_small n w h
  · have hs : clsOf (cut40 n) = clsOf n ∧ szOf (cut40 n) = szOf n := by unfold szOf clsOf pagesOf cut40; omega
    exact (ofRef_big (cut40 n) n w (by unfold cut40; omega) rfl).mono fun _ _ h => ⟨h.1.trans (ret_ii hs.1 hs.2), h.2⟩
end Go.Proofs.Ytfiddodlpppdhaa
