/- a line and a row of numbers beside it. -/
import Derived.Test.YtkfgpgllpegleaaLineRows
namespace Go.Proofs.Ytkfgpgllpegleaa
open Go.RowKit
set_option linter.unusedVariables false

/-- a line with l, and a row of numbers C, both made behind world w0 -/
structure OA (B : Nat) (w0 : World) (p bud : Nat) (C : List Nat) (v : Value) (l : List (Int × Nat)) (w : World) : Prop where
  line : ∃ q, LineAt w p q bud l ∧ (∀ x, q = some x → B ≤ x) ∧ ∀ x, v.ownBlock = some x → q ≠ some x ∧ x ≠ p ∧ B ≤ x
  row : RowS w 1 v C.length (natCells C)
  lo : B ≤ p
  bel : Below B w0 w
  size : B ≤ w.heap.size
section
variable {B : Nat} {w0 w : World} {p bud : Nat} {C : List Nat} {v : Value} {l : List (Int × Nat)}
theorem OA.of_new (h : LN B w0 p bud l w) : OA B w0 p bud [] (.slice none 0 0) l w := by
  obtain ⟨⟨q, h1, h2⟩, h3, h4, h5⟩ := h
  exact ⟨⟨q, h1, h2, fun x hx => by cases hx⟩, RowS.nil _ _, h3, h4, h5⟩
theorem OA.ln (h : OA B w0 p bud C v l w) : LN B w0 p bud l w := by
  obtain ⟨⟨q, h1, h2, _⟩, _, h3, h4, h5⟩ := h
  exact ⟨⟨q, h1, h2⟩, h3, h4, h5⟩
theorem OA.drewN (h : OA B w0 p bud C v l w) (m : Nat) : OA B w0 p bud C v l (w.drewN m) := by
  obtain ⟨⟨q, h1, h2, h6⟩, h7, h3, h4, h5⟩ := h
  exact ⟨⟨q, h1.drewN m, h2, h6⟩, h7.drewN m, h3, below_drewN h4 m, h5⟩
theorem OA.push {v' : Value} {w' : World} {o : Obj} {c : Nat} (h : OA B w0 p bud C v l w) (hr : RowS w' 1 v' (C.length + 1) (natCells C ++ [.int .i64 (c : Nat)])) (hg : (w.alloc o).grownBy w' v.ownBlock)
    (hv : v'.ownBlock = v.ownBlock ∨ ∃ g, v'.ownBlock = some g ∧ (w.alloc o).heap.size ≤ g) : OA B w0 p bud (C ++ [c]) v' l w' := by
  obtain ⟨⟨q, h1, h2, h6⟩, h7, h3, h4, h5⟩ := h
  have hk : Keeps v.ownBlock.toList w w' := ((Keeps.refl _ _).alloc o).trans (Keeps.of_row hg fun g e => by simp [e])
  have hin : ∀ x, x ∈ v.ownBlock.toList → v.ownBlock = some x := fun x hx => by simpa using hx
  refine ⟨⟨q, h1.keeps hk (fun hm => (h6 p (hin p hm)).2.1 rfl) (fun g hg' hm => (h6 g (hin g hm)).1 hg'), h2, fun x hx => ?_⟩, by rw [← natCells_snoc]; simpa using hr, h3, below_keeps h4 hk h5 (fun k hm => (h6 k (hin k hm)).2.2), Nat.le_trans h5 hk.size⟩
  rcases hv with e | ⟨g, e, hge⟩
  · exact h6 x (by rw [← e]; exact hx)
  · rw [e] at hx
    cases hx
    rw [size_alloc] at hge
    obtain ⟨l1, l2⟩ := h1.lt
    exact ⟨fun e => by have := l2 _ e; omega, by omega, by omega⟩
theorem OA.next {w' : World} {q q' : Option Nat} {l' : List (Int × Nat)} (h1 : LineAt w p q bud l) (h2 : ∀ x, q = some x → B ≤ x) (h6 : ∀ x, v.ownBlock = some x → q ≠ some x ∧ x ≠ p ∧ B ≤ x) (h : OA B w0 p bud C v l w) (k : Keeps (p :: q.toList) w w') (hl : LineAt w' p q' bud l') (hq' : q' = q ∨ ∃ g, q' = some g ∧ w.heap.size ≤ g) : OA B w0 p bud C v l' w' := by
  obtain ⟨-, h7, h3, h4, h5⟩ := h
  refine ⟨⟨q', hl, fun g hg => ?_, fun x hx => ⟨fun e => ?_, (h6 x hx).2.1, (h6 x hx).2.2⟩⟩, h7.keeps k fun x hx hm => ?_, h3, below_keeps h4 k h5 (fun g hm => ?_), Nat.le_trans h5 k.size⟩
  · rcases hq' with h | ⟨g', h, hge⟩
    · exact h2 g (by rw [← h, hg])
    · rw [hg] at h; cases h; exact Nat.le_trans h5 hge
  · rcases hq' with h | ⟨g', h, hge⟩
    · exact (h6 x hx).1 (by rw [← h, e])
    · rw [e] at h; cases h; have := h7.lt _ hx; omega
  · rcases List.mem_cons.1 hm with rfl | hm
    · exact (h6 _ hx).2.1 rfl
    · exact (h6 _ hx).1 (by simpa using hm)
  · rcases List.mem_cons.1 hm with rfl | hm
    · exact h3
    · exact h2 g (by simpa using hm)
end
/-- what Add does beside a row -/
def AddOA (B : Nat) (w0 : World) (p bud : Nat) (C : List Nat) (v : Value) (l : List (Int × Nat)) (en : Ending) (w' : World) : Prop :=
  ∃ a c, en = .returned (.slice a (goes bud l).length c) ∧ RowS w' 1 (.slice a (goes bud l).length c) (goes bud l).length (intCells (goes bud l)) ∧ OA B w0 p bud C v (stays bud l) w'
theorem addOA {B : Nat} {w0 w : World} {p bud : Nat} {C : List Nat} {v : Value} {l : List (Int × Nat)} (a : Int) (m : Nat) (h : OA B w0 p bud C v l w) (hl : l.length + 1 ≤ 1048576) (hmn : m ≤ 1073741824) :
    Calls Try.prog 25 #[.pointer (some ⟨p, 0, none⟩), .int .i64 a, .int .i64 (m : Nat)] w (AddOA B w0 p bud C v (l ++ [(a, m)])) := by
  obtain ⟨q, h1, h2, h6⟩ := h.line
  refine (add_line a m w h1 hl hmn).mono ?_
  rintro e w' ⟨v1, q', rfl, hv, -, hl, hq, hk⟩
  obtain ⟨a1, k1, rfl, _⟩ := hv.read
  exact ⟨a1, k1, rfl, hv, OA.next h1 h2 h6 h hk hl hq⟩
end Go.Proofs.Ytkfgpgllpegleaa
