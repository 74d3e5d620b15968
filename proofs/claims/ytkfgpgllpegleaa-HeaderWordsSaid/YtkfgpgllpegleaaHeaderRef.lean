/- the reference's Word of a header; the example of chapter 8 holds. -/
import Derived.Test.YtkfgpgllpegleaaHeaderWord
import Derived.Test.YtkfgpgllpegleaaHeaderRead
namespace Go.Proofs.Ytkfgpgllpegleaa
open Go.RowKit
set_option linter.unusedVariables false

theorem or_at {x y a : Nat} (M : Nat) (hM : M = 2 ^ a) (ha : a < 64) (hx : x < M) (hy : y * M < 18446744073709551616) : bits .or .u64 (x : Int) ((y : Int) * (M : Int)) = ((x + y * M : Nat) : Int) := by
  subst hM
  rw [← u64_or_add hx hy ha, Int.natCast_mul]
theorem or_parts {k c r n o : Nat} (z d : Bool) (hk : 1 ≤ k ∧ k ≤ 8) (hc : c ≤ 4000) (hr : r ≤ 4000) (hn : n ≤ 255) (ho : o ≤ 3) :
    bits .or .u64 (bits .or .u64 (bits .or .u64 (bits .or .u64 (bits .or .u64 (bits .or .u64 (k : Int) ((c : Int) * 16)) ((r : Int) * 1048576)) ((n : Int) * 68719476736)) ((o : Int) * 17592186044416)) (IntKind.u64.wrap ((bN z : Int) * 70368744177664))) (IntKind.u64.wrap ((bN d : Int) * 140737488355328)) = ((wordN k c r n o z d : Nat) : Int) := by
  have hz := bN_le z
  have hd := bN_le d
  have w1 : IntKind.u64.wrap ((bN z : Int) * 70368744177664) = (bN z : Int) * 70368744177664 := by rw [IntKind.wrap_u64]; omega
  have w2 : IntKind.u64.wrap ((bN d : Int) * 140737488355328) = (bN d : Int) * 140737488355328 := by rw [IntKind.wrap_u64]; omega
  have e1 : bits .or .u64 (k : Int) ((c : Int) * 16) = ((k + c * 16 : Nat) : Int) := or_at (a := 4) 16 rfl (by decide) (by omega) (by omega)
  have e2 : bits .or .u64 ((k + c * 16 : Nat) : Int) ((r : Int) * 1048576) = ((k + c * 16 + r * 1048576 : Nat) : Int) := or_at (a := 20) 1048576 rfl (by decide) (by omega) (by omega)
  have e3 : bits .or .u64 ((k + c * 16 + r * 1048576 : Nat) : Int) ((n : Int) * 68719476736) = ((k + c * 16 + r * 1048576 + n * 68719476736 : Nat) : Int) := or_at (a := 36) 68719476736 rfl (by decide) (by omega) (by omega)
  have e4 : bits .or .u64 ((k + c * 16 + r * 1048576 + n * 68719476736 : Nat) : Int) ((o : Int) * 17592186044416) = ((k + c * 16 + r * 1048576 + n * 68719476736 + o * 17592186044416 : Nat) : Int) := or_at (a := 44) 17592186044416 rfl (by decide) (by omega) (by omega)
  have e5 : bits .or .u64 ((k + c * 16 + r * 1048576 + n * 68719476736 + o * 17592186044416 : Nat) : Int) ((bN z : Int) * 70368744177664) = ((k + c * 16 + r * 1048576 + n * 68719476736 + o * 17592186044416 + bN z * 70368744177664 : Nat) : Int) := or_at (a := 46) 70368744177664 rfl (by decide) (by omega) (by omega)
  have e6 : bits .or .u64 ((k + c * 16 + r * 1048576 + n * 68719476736 + o * 17592186044416 + bN z * 70368744177664 : Nat) : Int) ((bN d : Int) * 140737488355328) = ((wordN k c r n o z d : Nat) : Int) := or_at (a := 47) 140737488355328 rfl (by decide) (by omega) (by omega)
  rw [w1, w2, e1, e2, e3, e4, e5, e6]
set_option maxHeartbeats 2000000 in
theorem wordRef_good (k c r n o : Nat) (z d : Bool) (hk : 1 ≤ k ∧ k ≤ 8) (hc : c ≤ 4000) (hr : r ≤ 4000) (hn : n ≤ 255) (ho : o ≤ 3) (w : World) :
    Calls Try.prog 35 #[hdrV k c r n o z d] w fun e w' => e = .returned (.int .u64 (wordN k c r n o z d : Nat)) ∧ Below w.heap.size w w' := by
  have R := Lib.hid (fun w => rightRef_any k c r n o z d w)
  rw [rightB_nat hk hc hr hn ho] at R
  unfold hdrV at R ⊢
  go_enter Try.func35, Try.ntmps35
  go_wp2_with fail
  refine (R.out _).mono ?_
  rintro e w' ⟨rfl, hb⟩
  have hhd := (hb.block w.heap.size (by rw [size_alloc]; omega)).trans (heap_alloc_at _ _)
  have c0 : w'.cell? ⟨w.heap.size, 0, none⟩ = some (.int .i64 k) := by rw [cell_of_block hhd]; rfl
  have c1 : w'.cell? ⟨w.heap.size, 1, none⟩ = some (.int .i64 c) := by rw [cell_of_block hhd]; rfl
  have c2 : w'.cell? ⟨w.heap.size, 2, none⟩ = some (.int .i64 r) := by rw [cell_of_block hhd]; rfl
  have c3 : w'.cell? ⟨w.heap.size, 3, none⟩ = some (.int .i64 n) := by rw [cell_of_block hhd]; rfl
  have c4 : w'.cell? ⟨w.heap.size, 4, none⟩ = some (.int .i64 o) := by rw [cell_of_block hhd]; rfl
  have c5 : w'.cell? ⟨w.heap.size, 5, none⟩ = some (.bool z) := by rw [cell_of_block hhd]; rfl
  have c6 : w'.cell? ⟨w.heap.size, 6, none⟩ = some (.bool d) := by rw [cell_of_block hhd]; rfl
  have HB := Lib.hid (((Below.refl _ _).alloc (Nat.le_refl _) _).trans (hb.mono (by rw [size_alloc]; omega)))
  clear hb hhd
  go_wp2_with fail
  go_quiet ((go_at_call 51; exact quiet_left (flagRef_any _ _)))
  go_wp2_with fail
  go_ret
  refine ⟨ret_int ?_, below_drewN HB.out _⟩
  exact or_parts z d hk hc hr hn ho
end Go.Proofs.Ytkfgpgllpegleaa
