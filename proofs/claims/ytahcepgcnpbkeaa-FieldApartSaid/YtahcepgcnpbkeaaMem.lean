/- What a law's walk is told of a slice of integers that came in. -/
import Derived.Test.YtahcepgcnpbkeaaChecked
import Derived.WalkKit
import Derived.ProofKit
import Derived.OpenShut
import Derived.ShutString
import Derived.ChangeOld
import Derived.Below
import Derived.Lib.Hide
namespace Go.Proofs.Ytahcepgcnpbkeaa
open Go.RowKit Go.ChangeShapes Go.WideShapes

/-- a slice of integers, readable up to its length -/
structure Ints (k : IntKind) (w : World) (a : Option Addr) (len cap : Nat) (z : Nat → Int) : Prop where
  le : len ≤ cap
  max : cap ≤ 9223372036854775807
  nil : a = none → len = 0 ∧ cap = 0
  cell : ∀ i, i < len → ∃ b off, a = some ⟨b, off, none⟩ ∧ b < w.heap.size ∧ w.cell? ⟨b, off + i, none⟩ = some (.int k (z i))
  wf : ∀ i, i < len → (Lit.int k (z i)).wf = true

theorem Ints.below {k : IntKind} {w w' : World} {a : Option Addr} {len cap : Nat} {z : Nat → Int} (h : Ints k w a len cap z) (hb : Below w.heap.size w w') : Ints k w' a len cap z :=
  ⟨h.le, h.max, h.nil, fun i hi => by
    obtain ⟨b, off, e, hlt, hc⟩ := h.cell i hi
    exact ⟨b, off, e, Nat.lt_of_lt_of_le hlt hb.size, (hb.cell (p := ⟨b, off + i, none⟩) hlt).trans hc⟩, h.wf⟩

theorem ints_nil (k : IntKind) (w : World) (z : Nat → Int) : Ints k w none 0 0 z :=
  ⟨Nat.le_refl _, by decide, fun _ => ⟨rfl, rfl⟩, fun i h => absurd h (by omega), fun i h => absurd h (by omega)⟩

theorem ints_row {k : IntKind} {w : World} {x : Addr} {l c : Nat} {zs : List Int} (hl : l ≤ c) (hm : c ≤ maxLen) (hz : zs.length = c)
    (hcell : ∀ i, i < zs.length → w.cell? (x.add i) = some (.int k (zs.getD i 0))) (hwz : ∀ n ∈ zs, (Lit.int k n).wf = true) : Ints k w (some x) l c (fun i => zs.getD i 0) := by
  refine ⟨hl, by simpa [maxLen] using hm, fun e => (by cases e), fun i hi => ?_, fun i hi => ?_⟩
  · have hc := hcell i (by omega)
    obtain ⟨b, off, spot⟩ := x
    have hc0 := hcell 0 (by omega)
    have hspot : spot = none := by simpa [Addr.add] using World.cell?_spot hc0
    subst hspot
    refine ⟨b, off, rfl, World.block_lt_of_cell? w _ hc0, ?_⟩
    rw [← hc]
    unfold Addr.add
    by_cases h0 : i = 0
    · subst h0; rfl
    · rw [if_neg h0]
  · have hlt : i < zs.length := by omega
    have : zs.getD i 0 ∈ zs := by
      rw [List.getD_eq_getElem?_getD, List.getElem?_eq_getElem hlt, Option.getD_some]
      exact List.getElem_mem hlt
    exact hwz _ this
end Go.Proofs.Ytahcepgcnpbkeaa
