/- The functions of package sizes compute what they say: contracts over the seat's program. -/
import Derived.Test.YtfiddodlpppdhaaChecked
import Derived.WalkKit
import Derived.WalkLawsBesides
import Derived.Lib.Hide
import Derived.Test.YtfiddodlpppdhaaBits
namespace Go.Proofs.Ytfiddodlpppdhaa
open Go.RowKit
set_option linter.unusedVariables false

/-- how many pages some words and one more take -/
def pagesOf (n : Int) : Int := (max 1 (min n 1099511627776)) / 64 + 1
/-- the place of a size -/
def clsOf (n : Int) : Int := if n < 2 then 0 else if n < 4 then 1 else if n < 8 then 2 else if n < 16 then 3 else if n < 32 then 4 else 5
/-- the size of a block -/
def szOf (n : Int) : Int := if n < 2 then 2 else if n < 4 then 4 else if n < 8 then 8 else if n < 16 then 16 else if n < 32 then 32 else 64 * pagesOf n
/-- how many blocks of a size stand in a page -/
def blocksOf (s : Int) : Int := if s = 2 then 32 else if s = 4 then 16 else if s = 8 then 8 else if s = 16 then 4 else if s = 32 then 2 else 0

theorem pagesOf_bd (n : Int) : 1 ≤ pagesOf n ∧ pagesOf n ≤ 17179869185 := by unfold pagesOf; omega

theorem pages_any (n : Int) (w : World) : Calls Try.prog 42 #[.int .i64 n] w fun e w' => e = .returned (.int .i64 (pagesOf n)) ∧ w = w' := by
  go_enter Try.func42, Try.ntmps42
  go_wp2
  all_goals
    go_ret
    refine ⟨ret_int ?_, rfl⟩
    unfold pagesOf
    omega
theorem of_big (n : Int) (w : World) (h1 : 2 ≤ n) : Calls Try.prog 27 #[.int .i64 n] w fun e w' => e = .returned (.tuple #[.int .i64 (clsOf n), .int .i64 (szOf n)]) ∧ w = w' := by
  have hp := pagesOf_bd n
  go_enter Try.func27, Try.ntmps27
  go_wp2
  go_loop [4, 5] (fun i s => (i = .int .i64 0 ∧ s = .int .i64 2) ∨ (2 ≤ n ∧ i = .int .i64 1 ∧ s = .int .i64 4) ∨ (4 ≤ n ∧ i = .int .i64 2 ∧ s = .int .i64 8) ∨ (8 ≤ n ∧ i = .int .i64 3 ∧ s = .int .i64 16) ∨ (16 ≤ n ∧ i = .int .i64 4 ∧ s = .int .i64 32) ∨ (32 ≤ n ∧ i = .int .i64 5 ∧ s = .int .i64 64)) (fun i _ => 6 - (intOf i).toNat)
  case atStart => exact .inl ⟨rfl, rfl⟩
  case round =>
    rcases hrel with ⟨rfl, rfl⟩ | ⟨hn, rfl, rfl⟩ | ⟨hn, rfl, rfl⟩ | ⟨hn, rfl, rfl⟩ | ⟨hn, rfl, rfl⟩ | ⟨hn, rfl, rfl⟩
    · go_wp2
      go_round
      case rel => right; left; exact ⟨by omega, rfl, rfl⟩
      case measure => simp [intOf]
    · by_cases h : n < 4
      · go_wp2
        go_ret2
        refine ⟨ret_ii ?_ ?_, rfl⟩ <;> (simp only [clsOf, szOf]; omega)
      · go_wp2
        go_round
        case rel => right; right; left; exact ⟨by omega, rfl, rfl⟩
        case measure => simp [intOf]
    · by_cases h : n < 8
      · go_wp2
        go_ret2
        refine ⟨ret_ii ?_ ?_, rfl⟩ <;> (simp only [clsOf, szOf]; omega)
      · go_wp2
        go_round
        case rel => right; right; right; left; exact ⟨by omega, rfl, rfl⟩
        case measure => simp [intOf]
    · by_cases h : n < 16
      · go_wp2
        go_ret2
        refine ⟨ret_ii ?_ ?_, rfl⟩ <;> (simp only [clsOf, szOf]; omega)
      · go_wp2
        go_round
        case rel => right; right; right; right; left; exact ⟨by omega, rfl, rfl⟩
        case measure => simp [intOf]
    · by_cases h : n < 32
      · go_wp2
        go_ret2
        refine ⟨ret_ii ?_ ?_, rfl⟩ <;> (simp only [clsOf, szOf]; omega)
      · go_wp2
        go_round
        case rel => right; right; right; right; right; exact ⟨by omega, rfl, rfl⟩
        case measure => simp [intOf]
    · go_wp2_with (go_at_call 42; refine (pages_any _ _).mono ?_; rintro e w' ⟨rfl, rfl⟩)
      go_ret2
      refine ⟨ret_ii ?_ ?_, rfl⟩ <;> (simp only [clsOf, szOf]; omega)
theorem of_small (n : Int) (w : World) (h1 : n < 2) : Calls Try.prog 27 #[.int .i64 n] w fun e w' => e = .returned (.tuple #[.int .i64 (clsOf n), .int .i64 (szOf n)]) ∧ w = w' := by
  by_cases h : n = 1
  · subst h
    go_enter Try.func27, Try.ntmps27
    go_wp2
    go_loop [4, 5] (fun i s => i = .int .i64 0 ∧ s = .int .i64 2) (fun i _ => 6 - (intOf i).toNat)
    case atStart => exact ⟨rfl, rfl⟩
    case round =>
      rcases hrel with ⟨rfl, rfl⟩
      go_wp2
      go_ret2
      exact ⟨rfl, rfl⟩
  · have h2 : n < 1 := by omega
    go_enter Try.func27, Try.ntmps27
    go_wp2
    go_loop [4, 5] (fun i s => i = .int .i64 0 ∧ s = .int .i64 2) (fun i _ => 6 - (intOf i).toNat)
    case atStart => exact ⟨rfl, rfl⟩
    case round =>
      rcases hrel with ⟨rfl, rfl⟩
      go_wp2
      go_ret2
      refine ⟨ret_ii ?_ ?_, rfl⟩ <;> (simp only [clsOf, szOf]; omega)
theorem of_any (n : Int) (w : World) : Calls Try.prog 27 #[.int .i64 n] w fun e w' => e = .returned (.tuple #[.int .i64 (clsOf n), .int .i64 (szOf n)]) ∧ w = w' := by
  by_cases h : n < 2
  · exact of_small n w h
  · exact of_big n w (by omega)
theorem blocks_any (s : Int) (w : World) : Calls Try.prog 57 #[.int .i64 s] w fun e w' => e = .returned (.int .i64 (blocksOf s)) ∧ w = w' := by
  go_enter Try.func57, Try.ntmps57
  go_wp2
  go_loop [3] (fun t => (t = .int .i64 2) ∨ (s ≠ 2 ∧ t = .int .i64 4) ∨ (s ≠ 2 ∧ s ≠ 4 ∧ t = .int .i64 8) ∨ (s ≠ 2 ∧ s ≠ 4 ∧ s ≠ 8 ∧ t = .int .i64 16) ∨ (s ≠ 2 ∧ s ≠ 4 ∧ s ≠ 8 ∧ s ≠ 16 ∧ t = .int .i64 32) ∨ (s ≠ 2 ∧ s ≠ 4 ∧ s ≠ 8 ∧ s ≠ 16 ∧ s ≠ 32 ∧ t = .int .i64 64)) (fun t => 64 - (intOf t).toNat)
  case atStart => exact .inl rfl
  case round =>
    rcases hrel with rfl | ⟨n2, rfl⟩ | ⟨n2, n4, rfl⟩ | ⟨n2, n4, n8, rfl⟩ | ⟨n2, n4, n8, n16, rfl⟩ | ⟨n2, n4, n8, n16, n32, rfl⟩
    · by_cases h : s = 2
      · subst h
        go_wp2
        go_ret
        exact ⟨rfl, rfl⟩
      · have hb : (2 == s) = false := by rw [beq_eq_false_iff_ne]; omega
        go_wp2
        go_round
        case rel => right; left; exact ⟨h, rfl⟩
        case measure => simp [intOf]
    · by_cases h : s = 4
      · subst h
        go_wp2
        go_ret
        exact ⟨rfl, rfl⟩
      · have hb : (4 == s) = false := by rw [beq_eq_false_iff_ne]; omega
        go_wp2
        go_round
        case rel => right; right; left; exact ⟨n2, h, rfl⟩
        case measure => simp [intOf]
    · by_cases h : s = 8
      · subst h
        go_wp2
        go_ret
        exact ⟨rfl, rfl⟩
      · have hb : (8 == s) = false := by rw [beq_eq_false_iff_ne]; omega
        go_wp2
        go_round
        case rel => right; right; right; left; exact ⟨n2, n4, h, rfl⟩
        case measure => simp [intOf]
    · by_cases h : s = 16
      · subst h
        go_wp2
        go_ret
        exact ⟨rfl, rfl⟩
      · have hb : (16 == s) = false := by rw [beq_eq_false_iff_ne]; omega
        go_wp2
        go_round
        case rel => right; right; right; right; left; exact ⟨n2, n4, n8, h, rfl⟩
        case measure => simp [intOf]
    · by_cases h : s = 32
      · subst h
        go_wp2
        go_ret
        exact ⟨rfl, rfl⟩
      · have hb : (32 == s) = false := by rw [beq_eq_false_iff_ne]; omega
        go_wp2
        go_round
        case rel => right; right; right; right; right; exact ⟨n2, n4, n8, n16, h, rfl⟩
        case measure => simp [intOf]
    · go_wp2
      go_ret
      refine ⟨ret_int ?_, rfl⟩
      simp only [blocksOf]
      omega
end Go.Proofs.Ytfiddodlpppdhaa
