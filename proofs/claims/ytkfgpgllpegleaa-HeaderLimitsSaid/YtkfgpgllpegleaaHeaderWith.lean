/- the law's with computes what it says. -/
import Derived.Test.YtkfgpgllpegleaaHeaderAlive
namespace Go.Proofs.Ytkfgpgllpegleaa
open Go.RowKit
set_option linter.unusedVariables false

theorem with_at0 (n : Int) (w : World) : Calls Try.prog 38 #[.int .i64 0, .int .i64 n] w fun e w' => e = .returned (hdrV n 0 0 0 0 false false) ∧ Below w.heap.size w w' := by
  go_enter Try.func38, Try.ntmps38
  go_wp2
  exact bodyPost_ret (v := hdrV n 0 0 0 0 false false) (by simp [results, Try.results38, go_sem, hdrV]) rfl ⟨rfl, ((Below.refl _ _).alloc (Nat.le_refl _) _).alloc (by simp) _⟩
theorem with_at1 (n : Int) (w : World) : Calls Try.prog 38 #[.int .i64 1, .int .i64 n] w fun e w' => e = .returned (hdrV 3 n 0 0 0 false false) ∧ Below w.heap.size w w' := by
  go_enter Try.func38, Try.ntmps38
  go_wp2
  exact bodyPost_ret (v := hdrV 3 n 0 0 0 false false) (by simp [results, Try.results38, go_sem, hdrV]) rfl ⟨rfl, ((Below.refl _ _).alloc (Nat.le_refl _) _).alloc (by simp) _⟩
theorem with_at2 (n : Int) (w : World) : Calls Try.prog 38 #[.int .i64 2, .int .i64 n] w fun e w' => e = .returned (hdrV 3 0 n 0 0 false false) ∧ Below w.heap.size w w' := by
  go_enter Try.func38, Try.ntmps38
  go_wp2
  exact bodyPost_ret (v := hdrV 3 0 n 0 0 false false) (by simp [results, Try.results38, go_sem, hdrV]) rfl ⟨rfl, ((Below.refl _ _).alloc (Nat.le_refl _) _).alloc (by simp) _⟩
theorem with_at3 (n : Int) (w : World) : Calls Try.prog 38 #[.int .i64 3, .int .i64 n] w fun e w' => e = .returned (hdrV 3 0 0 n 0 false false) ∧ Below w.heap.size w w' := by
  go_enter Try.func38, Try.ntmps38
  go_wp2
  exact bodyPost_ret (v := hdrV 3 0 0 n 0 false false) (by simp [results, Try.results38, go_sem, hdrV]) rfl ⟨rfl, ((Below.refl _ _).alloc (Nat.le_refl _) _).alloc (by simp) _⟩
theorem with_at4 (n : Int) (w : World) : Calls Try.prog 38 #[.int .i64 4, .int .i64 n] w fun e w' => e = .returned (hdrV 3 0 0 0 n false false) ∧ Below w.heap.size w w' := by
  go_enter Try.func38, Try.ntmps38
  go_wp2
  exact bodyPost_ret (v := hdrV 3 0 0 0 n false false) (by simp [results, Try.results38, go_sem, hdrV]) rfl ⟨rfl, ((Below.refl _ _).alloc (Nat.le_refl _) _).alloc (by simp) _⟩
end Go.Proofs.Ytkfgpgllpegleaa
