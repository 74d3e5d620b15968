/- The reference's Blocks computes what package sizes computes. -/
import Derived.Test.YtahcepgcnpbkeaaSizes
namespace Go.Proofs.Ytahcepgcnpbkeaa
open Go.RowKit
set_option linter.unusedVariables false

theorem blocksRef_any (s : Int) (w : World) : Calls Try.prog 32 #[.int .i64 s] w fun e w' => e = .returned (.int .i64 (blocksOf s)) ∧ w = w' := by
  go_enter Try.func32, Try.ntmps32
  go_wp2
  go_loop [3] (fun t => (t = .int .i64 2) ∨ (s ≠ 2 ∧ t = .int .i64 4) ∨ (s ≠ 2 ∧ s ≠ 4 ∧ t = .int .i64 8) ∨ (s ≠ 2 ∧ s ≠ 4 ∧ s ≠ 8 ∧ t = .int .i64 16) ∨ (s ≠ 2 ∧ s ≠ 4 ∧ s ≠ 8 ∧ s ≠ 16 ∧ t = .int .i64 32) ∨ (s ≠ 2 ∧ s ≠ 4 ∧ s ≠ 8 ∧ s ≠ 16 ∧ s ≠ 32 ∧ t = .int .i64 64)) (fun t => 64 - (intOf t).toNat)
  case atStart => exact .inl rfl
  case round =>
    rcases hrel with rfl | ⟨n2, rfl⟩ | ⟨n2, n4, rfl⟩ | ⟨n2, n4, n8, rfl⟩ | ⟨n2, n4, n8, n16, rfl⟩ | ⟨n2, n4, n8, n16, n32, rfl⟩
    · by_cases h : s = 2
      · subst h
        go_wp2
        go_ret
        exact ⟨rfl, rfl⟩
      · have hb : (s == 2) = false := by rw [beq_eq_false_iff_ne]; omega
        go_wp2
        go_round
        case rel => right; left; exact ⟨h, rfl⟩
        case measure => simp [intOf]
    · by_cases h : s = 4
      · subst h
        go_wp2
        go_ret
        exact ⟨rfl, rfl⟩
      · have hb : (s == 4) = false := by rw [beq_eq_false_iff_ne]; omega
        go_wp2
        go_round
        case rel => right; right; left; exact ⟨n2, h, rfl⟩
        case measure => simp [intOf]
    · by_cases h : s = 8
      · subst h
        go_wp2
        go_ret
        exact ⟨rfl, rfl⟩
      · have hb : (s == 8) = false := by rw [beq_eq_false_iff_ne]; omega
        go_wp2
        go_round
        case rel => right; right; right; left; exact ⟨n2, n4, h, rfl⟩
        case measure => simp [intOf]
    · by_cases h : s = 16
      · subst h
        go_wp2
        go_ret
        exact ⟨rfl, rfl⟩
      · have hb : (s == 16) = false := by rw [beq_eq_false_iff_ne]; omega
        go_wp2
        go_round
        case rel => right; right; right; right; left; exact ⟨n2, n4, n8, h, rfl⟩
        case measure => simp [intOf]
    · by_cases h : s = 32
      · subst h
        go_wp2
        go_ret
        exact ⟨rfl, rfl⟩
      · have hb : (s == 32) = false := by rw [beq_eq_false_iff_ne]; omega
        go_wp2
        go_round
        case rel => right; right; right; right; right; exact ⟨n2, n4, n8, n16, h, rfl⟩
        case measure => simp [intOf]
    · go_wp2
      go_ret
      refine ⟨ret_int ?_, rfl⟩
      simp only [blocksOf]
      omega
end Go.Proofs.Ytahcepgcnpbkeaa
