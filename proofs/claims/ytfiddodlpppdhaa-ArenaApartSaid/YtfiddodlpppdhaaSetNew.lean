/- bitset.New makes an empty set. -/
import Derived.Test.YtfiddodlpppdhaaSet
namespace Go.Proofs.Ytfiddodlpppdhaa
open Go.RowKit
set_option linter.unusedVariables false

theorem set_info : (Try.prog.info? 38).map (fun i => (i.zero, i.size, i.bytes)) = some (some (.int .u64 0), 1, 8) := by kernel_rfl
/-- how many numbers a new set may have -/
def setN (n : Int) : Nat := (max 0 (min n 1000000)).toNat

/-- a new set -/
def SomeSet (N : Nat) (S : Nat → Bool) (w : World) (e : Ending) (w' : World) : Prop :=
  ∃ p g, e = .returned (.pointer (some ⟨p, 0, none⟩)) ∧ SetAt w' p g N S ∧ w.heap.size ≤ p ∧ w.heap.size ≤ g ∧ Below w.heap.size w w'

theorem made_row (w : World) (N T T' : Nat) (hN : N ≤ 1000000) :
    SetAt ((w.alloc (.cells (madeCells #[Value.int .u64 0] (setW N)) T')).alloc (.cells #[.int .i64 (N : Nat), .slice (some ⟨w.heap.size, 0, none⟩) (setW N) (setW N)] T)) (w.heap.size + 1) w.heap.size N (fun _ => false) := by
  have e := size_alloc w (.cells (madeCells #[Value.int .u64 0] (setW N)) T')
  refine ⟨hN, by omega, ⟨T, ?_⟩, madeCells #[Value.int .u64 0] (setW N), T', ?_, by simp [size_madeCells], fun _ => 0, fun i hi => ⟨?_, (show (0 : Nat) < 18446744073709551616 by decide)⟩, fun i j _ _ => by simp⟩
  · rw [← e]; exact heap_alloc_at _ _
  · rw [heap_alloc_lt _ _ (by omega)]; exact heap_alloc_at _ _
  · rw [← Array.getElem?_toList, toList_madeCells_one, List.getElem?_replicate, if_pos hi]
    rfl

theorem new_in (N : Nat) (w : World) (hN : N ≤ 1000000) (hN1 : 1 ≤ N) : Calls Try.prog 40 #[.int .i64 (N : Nat)] w (SomeSet N (fun _ => false) w) := by
  obtain ⟨i0, hi, hz0, hz1, hz2⟩ := info_parts set_info
  have hW : ((N : Int) + 64 - 1) / 64 = ((setW N : Nat) : Int) := by unfold setW; omega
  have hWs : setW N ≤ 20000 := by unfold setW; omega
  have hmk : ∀ W : World, (Instr.makeSlice 48 (.int .i64 (((N : Int) + 64 - 1) / 64)) (.int .i64 (((N : Int) + 64 - 1) / 64))).run Try.prog W = .ok (.slice (some ⟨W.heap.size, 0, none⟩) (setW N) (setW N)) (W.alloc (.cells (madeCells #[Value.int .u64 0] (setW N)) 38)) := by
    intro W
    rw [hW]
    have := makes_len (P := Try.prog) 48 38 i0 (.int .u64 0) Try.underlying48 hi hz0 .i64 .i64 (setW N) (setW N) (Nat.le_refl _) (by rw [hz2]; omega) (by omega) W
    rw [hz1, Nat.mul_one] at this
    exact this
  clear hi hz0 hz1 hz2 hW
  go_enter Try.func40, Try.ntmps40
  go_wp2
  go_ret
  exact ⟨_, _, rfl, made_row w N _ _ hN, Nat.le_succ _, Nat.le_refl _, ((Below.refl _ _).alloc (Nat.le_refl _) _).alloc (by simp) _⟩
theorem new_low (n : Int) (w : World) (hn : n ≤ 0) : Calls Try.prog 40 #[.int .i64 n] w (SomeSet 0 (fun _ => false) w) := by
  obtain ⟨i0, hi, hz0, hz1, hz2⟩ := info_parts set_info
  have hmk : ∀ W : World, (Instr.makeSlice 48 (.int .i64 0) (.int .i64 0)).run Try.prog W = .ok (.slice (some ⟨W.heap.size, 0, none⟩) 0 0) (W.alloc (.cells (madeCells #[Value.int .u64 0] 0) 38)) := by
    intro W
    have := makes_len (P := Try.prog) 48 38 i0 (.int .u64 0) Try.underlying48 hi hz0 .i64 .i64 0 0 (Nat.le_refl _) (by rw [hz2]; omega) (by omega) W
    rw [hz1, Nat.mul_one] at this
    exact this
  clear hi hz0 hz1 hz2
  go_enter Try.func40, Try.ntmps40
  go_wp2
  go_ret
  exact ⟨_, _, rfl, made_row w 0 _ _ (by decide), Nat.le_succ _, Nat.le_refl _, ((Below.refl _ _).alloc (Nat.le_refl _) _).alloc (by simp) _⟩
theorem new_any (n : Int) (w : World) (hn : n ≤ 1000000) : Calls Try.prog 40 #[.int .i64 n] w (SomeSet (setN n) (fun _ => false) w) := by
  by_cases h : n ≤ 0
  · have e : setN n = 0 := by unfold setN; omega
    rw [e]; exact new_low n w h
  · obtain ⟨N, rfl⟩ := Int.eq_ofNat_of_zero_le (show 0 ≤ n by omega)
    have e : setN (N : Int) = N := by unfold setN; omega
    rw [e]; exact new_in N w (by omega) (by omega)
end Go.Proofs.Ytfiddodlpppdhaa
