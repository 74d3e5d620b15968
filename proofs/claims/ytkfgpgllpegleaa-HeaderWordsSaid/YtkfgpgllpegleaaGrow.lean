/- A region that draws its order, whose operations read what was there, and whose calls may make memory: one walk, in the order of the text. -/
import Derived.Test.YtkfgpgllpegleaaMem
import Derived.Deep.QuietTactic
import Derived.BigQuiet
namespace Go.Proofs.Ytkfgpgllpegleaa
open Go.RowKit
set_option linter.unusedVariables false

/-- a world in which all that was there in another is as it was -/
structure Grow (W : World) where
  world : World
  below : Below W.heap.size W world
instance (W : World) : Nonempty (Grow W) := ⟨⟨W, Below.refl _ _⟩⟩
theorem Grow.cell {W : World} {p : Addr} {v : Value} (h : W.cell? p = some v) (g : Grow W) : g.world.cell? p = some v := (g.below.cell (World.block_lt_of_cell? W _ h)).trans h
theorem Grow.heap {W : World} {b : Nat} {o : Obj} (h : W.heap[b]? = some o) (g : Grow W) : g.world.heap[b]? = some o := (g.below.block b (Array.getElem?_eq_some_iff.1 h).1).trans h
theorem Grow.of {W w : World} (h : Below W.heap.size W w) : ∃ g : Grow W, w = g.world := ⟨⟨w, h⟩, rfl⟩
theorem Grow.calls {P : Program} {f : FuncId} {args : Array Value} {W : World} {g : Grow W} {v : Value}
    (h : Calls P f args g.world fun e w' => e = .returned v ∧ Below g.world.heap.size g.world w') : Calls P f args g.world fun e w' => e = .returned v ∧ ∃ g' : Grow W, w' = g'.world :=
  h.mono fun _ _ ⟨he, hb⟩ => ⟨he, Grow.of (g.below.trans (hb.mono g.below.size))⟩
theorem Grow.calls_same {P : Program} {f : FuncId} {args : Array Value} {W : World} {g : Grow W} {v : Value}
    (h : Calls P f args g.world fun e w' => e = .returned v ∧ g.world = w') : Calls P f args g.world fun e w' => e = .returned v ∧ ∃ g' : Grow W, w' = g'.world :=
  h.mono fun _ _ ⟨he, hb⟩ => ⟨he, ⟨g, hb.symm⟩⟩
theorem Grow.calls_drew {P : Program} {f : FuncId} {args : Array Value} {W : World} {g : Grow W} {v : Value}
    (h : Calls P f args g.world fun e w' => e = .returned v ∧ ∃ k, w' = g.world.drewN k) : Calls P f args g.world fun e w' => e = .returned v ∧ ∃ g' : Grow W, w' = g'.world :=
  h.mono fun _ _ ⟨he, k, hb⟩ => ⟨he, Grow.of (by rw [hb]; exact ⟨g.below.os, g.below.tape, g.below.output, g.below.size, g.below.block⟩)⟩
theorem grow_region {P : Program} {id : Nat} {Q : Exit → Act → World → Prop} {a : Act} {w : World} {l : List Oper} (hm : P.follows .mixedOrders = true) (hB : Region.lexB .any l.toArray = true)
    (h : wpQuiet P l.toArray (fun w' => ∃ g : Grow w, w' = g.world) (fun a' => ∀ w', (∃ g : Grow w, w' = g.world) → Q .normal a' w') l a) : (Code.region id l.toArray true).wp P Q a w :=
  wp_region_quiet (C := fun w' => ∃ g : Grow w, w' = g.world) hm hB (Grow.of (Below.refl _ _).drew) (by simpa using h)
end Go.Proofs.Ytkfgpgllpegleaa
