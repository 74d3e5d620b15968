/- Foreign blocks of memory beside an arena: they may turn, and new ones may be foreign. -/
import Derived.Test.YtfiddodlpppdhaaAsLive
namespace Go.Proofs.Ytfiddodlpppdhaa
open Go.RowKit Go.Maps
set_option linter.unusedVariables false
section
variable {w w' : World} {B B' : Nat → Prop} {pa K : Nat} {I : ArIds} {own : Nat → Nat} {A : Ar} {L : List Nat}
/-- what is not the arena's may turn -/
theorem ArAt.foreign (h : ArAt w pa I own K A) (k : Keeps L w w') (hL : ∀ g ∈ L, w.heap.size ≤ g ∨ own g = 0) : ArAt w' pa I (newOwn own w 0) K A := by
  have r := h.rest k (fun t => t ≠ 0) (fun x hx => (hL x hx).imp id fun e hn => hn e)
  have old : ∀ {g t : Nat}, g < w.heap.size → own g = t → newOwn own w 0 g = t := fun {g t} hg e => (newOwn_old hg).trans e
  obtain ⟨l1, l2, l3, l4⟩ := h.tab.lt
  obtain ⟨t1, t2, t3, t4⟩ := h.ttab
  exact ⟨r.head (by decide), r.words (by decide), h.wwf, r.tab (by decide), r.line (by decide), r.map (by decide), fun x b hb => r.blks x b hb (by omega), fun c hc => r.row c hc (by omega),
    old h.lt_pa h.tpa, old h.lt_gw h.tgw, ⟨old l1 t1, old l2 t2, old l3 t3, old l4 t4⟩, ⟨old h.line.lt.1 h.tline.1, fun g hg => old (h.line.lt.2 g hg) (h.tline.2 g hg)⟩, old h.map.lt h.tmap,
    fun c hc g hg => old ((h.row c hc).lt g hg) (h.trow c hc g hg), fun x b hb => old (h.lt_blk hb) (h.tblk x b hb)⟩
theorem ArS.grow (h : ArS B w pa K A) (k : Keeps L w w') (hL : ∀ g ∈ L, w.heap.size ≤ g ∨ B g) (hB : ∀ g, B' g → B g ∨ (w.heap.size ≤ g ∧ g < w'.heap.size)) : ArS B' w' pa K A := by
  obtain ⟨I, own, h1, h2, h3⟩ := h
  have hz : ∀ g, B g → own g = 0 := fun g hg => by
    by_cases e : own g = 0
    · exact e
    · exact absurd hg (h2 g e)
  refine ⟨I, _, h1.foreign k fun g hg => (hL g hg).imp id (hz g), fun g hg hb => ?_, fun g hg => ?_⟩
  · by_cases hlt : g < w.heap.size
    · rw [newOwn_old hlt] at hg
      rcases hB g hb with hb | hb
      · exact h2 g hg hb
      · omega
    · rw [newOwn_new (by omega)] at hg
      exact absurd rfl hg
  · rcases hB g hg with hb | hb
    · exact Nat.lt_of_lt_of_le (h3 g hb) k.size
    · exact hb.2
theorem ArS.growBelow (h : ArS B w pa K A) (hb : Below w.heap.size w w') (hB : ∀ g, B' g → B g ∨ (w.heap.size ≤ g ∧ g < w'.heap.size)) : ArS B' w' pa K A :=
  h.grow (Keeps.of_below hb (Nat.le_refl _) []) (fun g hg => absurd hg List.not_mem_nil) hB
/-- the blocks of the set, and those that are new -/
def addB (B : Nat → Prop) (w w' : World) : Nat → Prop := fun g => B g ∨ (w.heap.size ≤ g ∧ g < w'.heap.size)
/-- a row whose block is foreign stands -/
theorem RowS.bel {v : Value} {size n : Nat} {xs : List Value} (h : RowS w size v n xs) (hb : Bel B w w') (hv : ∀ g, v.ownBlock = some g → B g) : RowS w' size v n xs := by
  refine ⟨h.1, ?_⟩
  rcases h.2 with h2 | ⟨g, off, cap, cur, e, rfl, hh, r⟩
  · exact .inl h2
  · exact .inr ⟨g, off, cap, cur, e, rfl, (hb.block g (hv g rfl)).trans hh, r⟩
/-- an arena made since w0, which stands as it stood below -/
def AtA (w0 : World) (pa K : Nat) (A : Ar) (wr : World) : Prop := ArS (low w0.heap.size) wr pa K A ∧ Below w0.heap.size w0 wr
theorem AtA.bel {w0 wr wn : World} {K' : Nat} {A' : Ar} (h : AtA w0 pa K A wr) (h1 : ArS (low w0.heap.size) wn pa K' A') (h2 : Bel (low w0.heap.size) wr wn) : AtA w0 pa K' A' wn := ⟨h1, h.2.trans (h2.below fun g hg => hg)⟩
theorem AtA.keep {w0 wr wn : World} (h : AtA w0 pa K A wr) (hb : Below wr.heap.size wr wn) : AtA w0 pa K A wn := ⟨h.1.keep hb, h.2.trans (hb.mono h.2.size)⟩
theorem AtA.drewN {w0 wr : World} (h : AtA w0 pa K A wr) (k : Nat) : AtA w0 pa K A (wr.drewN k) := h.keep (below_drewN wr _ k)
end
end Go.Proofs.Ytfiddodlpppdhaa
