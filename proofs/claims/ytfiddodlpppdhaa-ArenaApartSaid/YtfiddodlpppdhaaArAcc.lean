/- a row of numbers that a call builds by append. -/
import Derived.Test.YtfiddodlpppdhaaArRow
namespace Go.Proofs.Ytfiddodlpppdhaa
open Go.RowKit
set_option linter.unusedVariables false

structure AccI (w : World) (v : Value) (acc : List Int) (wr : World) : Prop where
  row : RowS wr 1 v acc.length (intC acc)
  new : ∀ g, v.ownBlock = some g → w.heap.size ≤ g
  bel : Below w.heap.size w wr
section
variable {w wr w1 w2 : World} {v v2 : Value} {acc : List Int}
theorem AccI.start (w : World) : AccI w (.slice none 0 0) [] w := ⟨RowS.nil _ _, (fun g h => by cases h), Below.refl _ _⟩
theorem AccI.start_at (h : Below w.heap.size w wr) : AccI w (.slice none 0 0) [] wr := ⟨RowS.nil _ _, (fun g h => by cases h), h⟩
theorem AccI.below (h : AccI w v acc wr) (hb : Below wr.heap.size wr w1) : AccI w v acc w1 :=
  ⟨h.row.keeps (Keeps.of_below hb (Nat.le_refl _) []) fun _ _ => List.not_mem_nil, h.new, h.bel.trans (hb.mono h.bel.size)⟩
theorem AccI.push (h : AccI w v acc wr) {x : Int} {ob : Obj} (hr : RowS w2 1 v2 (acc.length + 1) (intC acc ++ [.int .i64 x])) (hg : (wr.alloc ob).grownBy w2 v.ownBlock) (hv : v2.ownBlock = v.ownBlock ∨ ∃ g, v2.ownBlock = some g ∧ wr.heap.size + 1 ≤ g) : AccI w v2 (acc ++ [x]) w2 := by
  have hs := h.bel.size
  refine ⟨by rw [List.length_append]; unfold intC at hr ⊢; rw [List.map_append]; exact hr, fun g hg' => ?_, ?_⟩
  · rcases hv with hv | ⟨g', hv, hge⟩
    · exact h.new g (by rw [← hv]; exact hg')
    · rw [hv] at hg'; cases hg'; omega
  · exact (h.bel.alloc hs ob).trans ⟨hg.os, hg.tape, hg.output, hg.size, fun k hk => hg.block k (by rw [size_alloc]; omega) (fun e => by have := h.new k e.symm; omega)⟩
theorem AccI.src (h : AccI w v acc wr) (ob : Obj) : RowS (wr.alloc ob) 1 v acc.length (intC acc) :=
  h.row.keeps ((Keeps.refl [] wr).alloc ob) fun _ _ => List.not_mem_nil
/-- what a call that builds a row hands back -/
def RowDone (w : World) (D : List Int) (en : Ending) (w' : World) : Prop := ∃ v, en = .returned v ∧ RowS w' 1 v D.length (intC D) ∧ (∀ g, v.ownBlock = some g → w.heap.size ≤ g) ∧ Below w.heap.size w w'
theorem AccI.done (h : AccI w v acc wr) : RowDone w acc (.returned v) wr := ⟨v, rfl, h.row, h.new, h.bel⟩
theorem AccI.done_from (h : AccI w1 v acc wr) (hb : Below w.heap.size w w1) : RowDone w acc (.returned v) wr := ⟨v, rfl, h.row, fun g hg => Nat.le_trans hb.size (h.new g hg), hb.trans (h.bel.mono hb.size)⟩
end
/-- a row that is read, cell by cell -/
theorem row_cell {w : World} {a : Option Addr} {n cap : Nat} {S : List Int} (h : RowS w 1 (.slice a n cap) n (intC S)) (hn : n = S.length) {k : Nat} (hk : k < n) : ∃ g off, a = some ⟨g, off, none⟩ ∧ g < w.heap.size ∧ w.cell? ⟨g, off + k, none⟩ = some (.int .i64 (hg S k)) := by
  obtain ⟨a', cap', e, r1, r2, r3, r4⟩ := h.read
  cases e
  obtain ⟨g, off, h1, h2, h3⟩ := r4 k (.int .i64 (hg S k)) (intC_at (hg_some (by omega)))
  exact ⟨g, off, h1, h2, h3⟩
end Go.Proofs.Ytfiddodlpppdhaa
