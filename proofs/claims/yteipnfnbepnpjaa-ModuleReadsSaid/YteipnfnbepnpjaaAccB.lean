/- a row of bytes that a call builds by append. -/
import Derived.Test.YteipnfnbepnpjaaCodeSame
namespace Go.Proofs.Yteipnfnbepnpjaa
open Go.RowKit
set_option linter.unusedVariables false

structure AccB (w : World) (v : Value) (acc : List Nat) (wr : World) : Prop where
  row : RowS wr 1 v acc.length (byteCells acc)
  new : ∀ g, v.ownBlock = some g → w.heap.size ≤ g
  bel : Below w.heap.size w wr
section
variable {w wr w1 w2 : World} {v v2 : Value} {acc : List Nat}
theorem AccB.start (w : World) : AccB w (.slice none 0 0) [] w := ⟨RowS.nil _ _, (fun g h => by cases h), Below.refl _ _⟩
theorem AccB.below (h : AccB w v acc wr) (hb : Below wr.heap.size wr w1) : AccB w v acc w1 :=
  ⟨h.row.keeps (Keeps.of_below hb (Nat.le_refl _) []) fun _ _ => List.not_mem_nil, h.new, h.bel.trans (hb.mono h.bel.size)⟩
theorem AccB.push (h : AccB w v acc wr) {bs acc2 : List Nat} {m : Nat} {ob : Obj} (hm : m = bs.length) (ha : acc2 = acc ++ bs) (hr : RowS w2 1 v2 (acc.length + m) (byteCells acc ++ byteCells bs)) (hg : (wr.alloc ob).grownBy w2 v.ownBlock) (hv : v2.ownBlock = v.ownBlock ∨ ∃ g, v2.ownBlock = some g ∧ wr.heap.size + 1 ≤ g) : AccB w v2 acc2 w2 := by
  have hs := h.bel.size
  subst hm ha
  refine ⟨by rw [List.length_append, byteCells_app]; exact hr, fun g hg' => ?_, ?_⟩
  · rcases hv with hv | ⟨g', hv, hge⟩
    · exact h.new g (by rw [← hv]; exact hg')
    · rw [hv] at hg'; cases hg'; omega
  · exact (h.bel.alloc hs ob).trans ⟨hg.os, hg.tape, hg.output, hg.size, fun k hk => hg.block k (by rw [size_alloc]; omega) (fun e => by have := h.new k e.symm; omega)⟩
theorem AccB.src (h : AccB w v acc wr) (ob : Obj) : RowS (wr.alloc ob) 1 v acc.length (byteCells acc) :=
  h.row.keeps ((Keeps.refl [] wr).alloc ob) fun _ _ => List.not_mem_nil
/-- a literal of bytes, as what is appended -/
theorem new_bytes (w : World) (bs : List Nat) (t : TypeId) : Src (w.alloc (.cells (byteCells bs).toArray t)) (.slice (some ⟨w.heap.size, 0, none⟩) bs.length bs.length) bs.length 1 (byteCells bs) := by
  refine .inr ⟨_, _, rfl, by simp [byteCells], fun j x hx => ?_⟩
  have h := cell_of_block (i := j) (heap_alloc_at w (.cells (byteCells bs).toArray t))
  have e : (⟨w.heap.size, 0, none⟩ : Addr).add j = ⟨w.heap.size, j, none⟩ := by unfold Addr.add; split <;> simp_all
  rw [e, h, ← hx]
  simp
end
end Go.Proofs.Yteipnfnbepnpjaa
