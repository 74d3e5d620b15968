/- The example of chapter 8 holds. -/
import Derived.Test.YtkfgpgllpegleaaHeaderRef
import Derived.Deep.RegionHeld3
namespace Go.Proofs.Ytkfgpgllpegleaa
open Go.RowKit
set_option linter.unusedVariables false

theorem keepC {w1 w2 : World} {p : Addr} {v : Value} (hb : Below w1.heap.size w1 w2) (h : w1.cell? p = some v) : w2.cell? p = some v := (hb.cell (World.block_lt_of_cell? w1 _ h)).trans h
theorem keepB {w0 w1 w2 : World} (hb : Below w1.heap.size w1 w2) (h : Below w0.heap.size w0 w1) : Below w0.heap.size w0 w2 := h.trans (hb.mono h.size)
theorem hdrOf_zero : hdrOf 0 = .agg #[.int .i64 0, .int .i64 0, .int .i64 0, .int .i64 0, .int .i64 0, .bool false, .bool false] := rfl
theorem word_eg (w : World) : Calls Try.prog 33 #[.agg #[.int .i64 2, .int .i64 3, .int .i64 0, .int .i64 7, .int .i64 0, .bool false, .bool false]] w fun e w' => e = .returned (.int .u64 481036337202) ∧ Below w.heap.size w w' :=
  (word_good 2 3 0 7 0 false false (by decide) (by decide) (by decide) (by decide) (by decide) w).mono fun _ _ h => ⟨h.1, h.2⟩
theorem read_eg (w : World) : Calls Try.prog 36 #[.int .u64 481036337202] w fun e w' => e = .returned (.agg #[.int .i64 2, .int .i64 3, .int .i64 0, .int .i64 7, .int .i64 0, .bool false, .bool false]) ∧ Below w.heap.size w w' :=
  (read_any 481036337202 (by decide) w).mono fun _ _ h => ⟨h.1, h.2⟩
theorem read_zero (w : World) : Calls Try.prog 36 #[.int .u64 0] w fun e w' => e = .returned (.agg #[.int .i64 0, .int .i64 0, .int .i64 0, .int .i64 0, .int .i64 0, .bool false, .bool false]) ∧ Below w.heap.size w w' :=
  (read_any 0 (by decide) w).mono fun _ _ h => ⟨h.1, h.2⟩
theorem read_both (x : Int) (hx : x = 0 ∨ x = 481036337202) (w : World) : Calls Try.prog 36 #[.int .u64 x] w fun e w' => e = .returned (if x = 0 then .agg #[.int .i64 0, .int .i64 0, .int .i64 0, .int .i64 0, .int .i64 0, .bool false, .bool false] else .agg #[.int .i64 2, .int .i64 3, .int .i64 0, .int .i64 7, .int .i64 0, .bool false, .bool false]) ∧ Below w.heap.size w w' := by
  rcases hx with rfl | rfl
  · exact read_zero w
  · exact read_eg w
theorem keepD {w : World} {p : Addr} {v : Value} (h : w.cell? p = some v) : w.drew.cell? p = some v := h
set_option maxRecDepth 100000 in
set_option maxHeartbeats 400000 in
theorem alive8 (w : World) : Calls Try.prog 31 #[] w fun e w' => e = .returned (.bool true) ∧ Below w.heap.size w w' := by
  go_enter Try.func31, Try.ntmps31
  go_wp2_with fail
  generalize hW : w.alloc _ = W1
  have c0 : W1.cell? ⟨w.heap.size, 0, none⟩ = some (.int .i64 2) := by rw [← hW, cell_of_block (heap_alloc_at _ _)]; rfl
  have c1 : W1.cell? ⟨w.heap.size, 1, none⟩ = some (.int .i64 3) := by rw [← hW, cell_of_block (heap_alloc_at _ _)]; rfl
  have c2 : W1.cell? ⟨w.heap.size, 2, none⟩ = some (.int .i64 0) := by rw [← hW, cell_of_block (heap_alloc_at _ _)]; rfl
  have c3 : W1.cell? ⟨w.heap.size, 3, none⟩ = some (.int .i64 7) := by rw [← hW, cell_of_block (heap_alloc_at _ _)]; rfl
  have c4 : W1.cell? ⟨w.heap.size, 4, none⟩ = some (.int .i64 0) := by rw [← hW, cell_of_block (heap_alloc_at _ _)]; rfl
  have c5 : W1.cell? ⟨w.heap.size, 5, none⟩ = some (.bool false) := by rw [← hW, cell_of_block (heap_alloc_at _ _)]; rfl
  have c6 : W1.cell? ⟨w.heap.size, 6, none⟩ = some (.bool false) := by rw [← hW, cell_of_block (heap_alloc_at _ _)]; rfl
  have hbw : Below w.heap.size w W1 := by rw [← hW]; exact (Below.refl _ _).alloc (Nat.le_refl _) _
  clear hW
  go_region_held3 (fun w' => w'.cell? ⟨w.heap.size, 0, none⟩ = some (.int .i64 2) ∧ w'.cell? ⟨w.heap.size, 1, none⟩ = some (.int .i64 3) ∧ w'.cell? ⟨w.heap.size, 2, none⟩ = some (.int .i64 0) ∧ w'.cell? ⟨w.heap.size, 3, none⟩ = some (.int .i64 7) ∧ w'.cell? ⟨w.heap.size, 4, none⟩ = some (.int .i64 0) ∧ w'.cell? ⟨w.heap.size, 5, none⟩ = some (.bool false) ∧ w'.cell? ⟨w.heap.size, 6, none⟩ = some (.bool false) ∧ Below w.heap.size w w')
    (((try go_split_ands); (repeat' apply And.intro) <;> first | assumption | (refine keepC ?_ (by assumption); assumption) | (refine keepB ?_ (by assumption); assumption) | (exact Below.drew (by assumption)) | (exact keepD (by assumption))))
    (first | (go_at_call 33; refine (word_eg _).mono ?_; rintro e w2 ⟨rfl, hb⟩) | (go_at_call 36; refine (read_both _ (by decide) _).mono ?_; rintro e w2 ⟨rfl, hb⟩))
  go_wp2
  rename_i hh
  go_ret
  exact ⟨rfl, hh.2.2.2.2.2.2.2⟩
end Go.Proofs.Ytkfgpgllpegleaa
